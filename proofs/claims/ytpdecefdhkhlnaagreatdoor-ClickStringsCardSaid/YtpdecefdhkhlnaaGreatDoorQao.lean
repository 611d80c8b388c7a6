/- Parts of the proof, put together by a program. -/
import Derived.Test.YtpdecefdhkhlnaaGreatDoorQag
import Derived.Test.YtpdecefdhkhlnaaGreatDoorQai
import Derived.Test.YtpdecefdhkhlnaaGreatDoorQan
set_option maxRecDepth 100000
set_option maxHeartbeats 4000000
set_option linter.unusedSimpArgs false
set_option linter.unusedVariables false
set_option linter.unusedSectionVars false
namespace Go.Proofs.YtpdecefdhkhlnaaGreatDoor
open Go.Ab Go.RowKit Go.Shelf Go.Proofs
attribute [local instance] drV loV
section
variable {mu : List Nat} {N : St → Prop} {X : Nat → St → Prop} {R : St → Prop} {σ : St}
theorem rgAs (s : Nat) {id : Nat} {l : List Go.Oper} (hi : (id == s) = false) (h : ∀ K : St → Prop, (∀ σ', N σ' → K σ') → wpA ev mu l.toArray l σ K) : VC ev mu (.region id l.toArray false) ⟨N, X, R⟩ σ := v_region evOk h
theorem rgBs (s : Nat) {id : Nat} {l : List Go.Oper} (hi : (id == s) = false) (hb : drawB false mu l (headStill mu l) = true) (h : ∀ K : St → Prop, (∀ σ', N σ' → K σ') → wpA ev mu l.toArray l σ K) : VC ev mu (.region id l.toArray true) ⟨N, X, R⟩ σ := v_draw' evOk hb h
theorem rgCs (s : Nat) {id : Nat} {l : List Go.Oper} (hi : (id == s) = false) (hb : drawB true mu l (headStill mu l) = true) (h : ∀ K : St → Prop, (∀ σ', N σ' → K σ') → wpA ev mu l.toArray l σ K) : VC ev mu (.region id l.toArray true) ⟨N, X, R⟩ σ := v_drawF evOk rfl hb h
end
theorem ru_join (k w t j m p : Int) (hw : I64 w) (ht : I64 t) (hj : I64 j) (hm : I64 m) (hp : I64 p) : (Lib.join ((ruW k w t j m p).map (·.data.toList)) [32]).length ≤ 200 := by
  have hs : ∀ v, I64 v → (itoaS v).data.toList.length ≤ 21 := fun v h => by
    unfold I64 at h
    show (Lib.itoa v).length ≤ 21
    have hd : (Lib.decDigits v.natAbs).length ≤ 20 := by
      by_cases h0 : v.natAbs = 0
      · rw [h0, digits_zero]; decide
      · have := digs_len 20 v.natAbs (by omega)
        unfold digs at this
        rwa [if_neg h0] at this
    unfold Lib.itoa
    by_cases h0 : v < 0
    · rw [if_pos h0]; simp only [List.length_cons]; omega
    · rw [if_neg h0, show v.toNat = v.natAbs by omega]; omega
  unfold ruW
  split
  · have := join_size 32 21 (wMed) [(itoaS w).data.toList, (itoaS t).data.toList, (itoaS j).data.toList, (itoaS m).data.toList, (itoaS p).data.toList] (fun x hx => by
      simp only [List.mem_cons, List.not_mem_nil, or_false] at hx
      rcases hx with rfl | rfl | rfl | rfl | rfl | rfl
      · decide
      all_goals exact hs _ (by assumption))
    have h2 : (Lib.join (List.map (fun x => x.data.toList) [(⟨wMed.toArray⟩ : ByteArray), itoaS w, itoaS t, itoaS j, itoaS m, itoaS p]) [32]).length ≤ 132 := by simpa using this
    omega
  · have := join_size 32 21 (wCur) [(itoaS t).data.toList, (itoaS j).data.toList, (itoaS m).data.toList, (itoaS p).data.toList] (fun x hx => by
      simp only [List.mem_cons, List.not_mem_nil, or_false] at hx
      rcases hx with rfl | rfl | rfl | rfl | rfl
      · decide
      all_goals exact hs _ (by assumption))
    have h2 : (Lib.join (List.map (fun x => x.data.toList) [(⟨wCur.toArray⟩ : ByteArray), itoaS t, itoaS j, itoaS m, itoaS p]) [32]).length ≤ 110 := by simpa using this
    omega
theorem c_FormatRules0 (w t j m p : Int) (hw : I64 w) (ht : I64 t) (hj : I64 j) (hm : I64 m) (hp : I64 p) : Pure Tryz.prog 23 [ruA 0 w t j m p] (.v (.string (ruS 0 w t j m p))) := by
  have k1 := c_ItoaV w hw
  have k2 := c_ItoaV t ht
  have k3 := c_ItoaV j hj
  have k4 := c_ItoaV m hm
  have k5 := c_ItoaV p hp
  have kJ := c_Join (ruW 0 w t j m p) ⟨#[32]⟩ (by simp [ruW]) (by simp [ruW]) (by have := ru_join 0 w t j m p hw ht hj hm hp; exact Nat.le_trans this (by decide))
  have hE : ruS 0 w t j m p = join7 (ruW 0 w t j m p) ⟨#[32]⟩ := by unfold ruS; rw [if_pos (.inl rfl)]
  rw [hE]
  have hW : ruW 0 w t j m p = [⟨wMed.toArray⟩, itoaS w, itoaS t, itoaS j, itoaS m, itoaS p] := rfl
  rw [hW] at kJ ⊢
  refine p_intro evOk [1, 6, 15, 27] Tryz.func23 rfl Tryz.call23 ?_
  repeat' first
   | refine v_seq ?_ | refine v_block ?_ | refine v_ret ?_ | refine v_skip ?_ | (refine v_exit ?_; repeat' first | refine xB_eq ?_ | refine xB_ne rfl ?_)
   | ((first | refine rgAs 12 rfl fun K hK => ?_ | refine rgBs 12 rfl rfl fun K hK => ?_ | refine rgCs 12 rfl rfl fun K hK => ?_); simp only [go_sem,simprocAttr,hset_at,hset_hset,hls])
   | (simp (disch := first | omega | rfl | (simp only [lnn]; omega)) only [spl])
   | (refine hK _ ?_; clear hK K)
   | (refine gdB_intro (fun h => ?_) (fun h => ?_) <;> simp only [go_sem,simprocAttr,h,hset_at,hset_hset,hls] <;> (have h' := h; try simp only [bl] at h'))
   | (refine v_cond rfl (fun h => ?_) (fun h => ?_) <;> first | (exact Bool.noConfusion h) | (have h' := h; try simp only [bl] at h'))
   | (refine r_ret ?_; simp only [resL, resA, Tryz.f23, lk_cons', lk_nil', Nat.reduceBEq]; first | exact ⟨rfl, Sb.nil _, rfl⟩ | refine ⟨rfl, sbt ?_, rfl⟩ | refine ⟨rfl, Sb.of_eq ?_, rfl⟩)
   | (refine And.intro (by first | exact True.intro | omega | rfl | exact Nat.le_of_ble_eq_true rfl | (simp only [lnn]; omega) | exact List.forall_mem_nil _ | (refine List.forall_mem_cons.2 ⟨⟨_, rfl⟩, ?_⟩; repeat' first | exact List.forall_mem_nil _ | refine List.forall_mem_cons.2 ⟨⟨_, rfl⟩, ?_⟩)) ?_)
   | ((first | refine call_pure' (k1) rfl ?_ | refine call_pure' (k2) rfl ?_ | refine call_pure' (k3) rfl ?_ | refine call_pure' (k4) rfl ?_ | refine call_pure' (k5) rfl ?_); simp only [go_sem,simprocAttr,hset_at,hset_hset,hls])
   | (refine m_rn _ _ _ _ _ 0 _ rfl rfl ?_; rw [if_pos rfl]; simp only [cmK, rnA, List.map_cons, List.map_nil, go_sem,simprocAttr])
   | (refine v_run ?_)
   | (refine v_round ?_)
   | fail
  refine vc_ent ((ent_freezeH 7 (c := [.v (.string ⟨wMed.toArray⟩), .v (.string (itoaS w)), .v (.string (itoaS t)), .v (.string (itoaS j)), .v (.string (itoaS m)), .v (.string (itoaS p))]) (by simp [hset']) rfl).trans (ent_rows (fr := [(3, .sl 1 6 (strs [⟨wMed.toArray⟩, itoaS w, itoaS t, itoaS j, itoaS m, itoaS p]))]) [] (by simp only [fzF, fz_other, fz_sl]; (repeat' first | exact trivial | refine ⟨?_, ?_⟩ | rfl)) rfl True.intro (Nat.le_refl _))) ?_
  repeat' first
   | refine v_seq ?_ | refine v_block ?_ | refine v_ret ?_ | refine v_skip ?_ | (refine v_exit ?_; repeat' first | refine xB_eq ?_ | refine xB_ne rfl ?_)
   | ((first | refine rgA fun K hK => ?_ | refine rgB rfl fun K hK => ?_ | refine rgC rfl fun K hK => ?_); simp only [go_sem,simprocAttr])
   | (simp (disch := first | omega | rfl | (simp only [lnn]; omega)) only [spl])
   | (refine hK _ ?_; clear hK K)
   | (refine gdB_intro (fun h => ?_) (fun h => ?_) <;> simp only [go_sem,simprocAttr,h] <;> (have h' := h; try simp only [bl] at h'))
   | (refine v_cond rfl (fun h => ?_) (fun h => ?_) <;> first | (exact Bool.noConfusion h) | (have h' := h; try simp only [bl] at h'))
   | (refine r_ret ?_; simp only [resL, resA, Tryz.f23, lk_cons', lk_nil', Nat.reduceBEq]; first | exact ⟨rfl, Sb.nil _, rfl⟩ | refine ⟨rfl, sbt ?_, rfl⟩ | refine ⟨rfl, Sb.of_eq ?_, rfl⟩)
   | (refine And.intro (by first | exact True.intro | omega | rfl | exact Nat.le_of_ble_eq_true rfl | (simp only [lnn]; omega) | exact List.forall_mem_nil _ | (refine List.forall_mem_cons.2 ⟨⟨_, rfl⟩, ?_⟩; repeat' first | exact List.forall_mem_nil _ | refine List.forall_mem_cons.2 ⟨⟨_, rfl⟩, ?_⟩)) ?_)
   | ((first | refine call_pure' (kJ) rfl ?_); simp only [go_sem,simprocAttr])
   | fail
theorem c_FormatRules1 (w t j m p : Int) (hw : I64 w) (ht : I64 t) (hj : I64 j) (hm : I64 m) (hp : I64 p) : Pure Tryz.prog 23 [ruA 1 w t j m p] (.v (.string (ruS 1 w t j m p))) := by
  have k2 := c_ItoaV t ht
  have k3 := c_ItoaV j hj
  have k4 := c_ItoaV m hm
  have k5 := c_ItoaV p hp
  have kJ := c_Join (ruW 1 w t j m p) ⟨#[32]⟩ (by simp [ruW]) (by simp [ruW]) (by have := ru_join 1 w t j m p hw ht hj hm hp; exact Nat.le_trans this (by decide))
  have hE : ruS 1 w t j m p = join7 (ruW 1 w t j m p) ⟨#[32]⟩ := by unfold ruS; rw [if_pos (.inr rfl)]
  rw [hE]
  have hW : ruW 1 w t j m p = [⟨wCur.toArray⟩, itoaS t, itoaS j, itoaS m, itoaS p] := rfl
  rw [hW] at kJ ⊢
  refine p_intro evOk [1, 6, 15, 27] Tryz.func23 rfl Tryz.call23 ?_
  repeat' first
   | refine v_seq ?_ | refine v_block ?_ | refine v_ret ?_ | refine v_skip ?_ | (refine v_exit ?_; repeat' first | refine xB_eq ?_ | refine xB_ne rfl ?_)
   | ((first | refine rgAs 12 rfl fun K hK => ?_ | refine rgBs 12 rfl rfl fun K hK => ?_ | refine rgCs 12 rfl rfl fun K hK => ?_); simp only [go_sem,simprocAttr,hset_at,hset_hset,hls])
   | (simp (disch := first | omega | rfl | (simp only [lnn]; omega)) only [spl])
   | (refine hK _ ?_; clear hK K)
   | (refine gdB_intro (fun h => ?_) (fun h => ?_) <;> simp only [go_sem,simprocAttr,h,hset_at,hset_hset,hls] <;> (have h' := h; try simp only [bl] at h'))
   | (refine v_cond rfl (fun h => ?_) (fun h => ?_) <;> first | (exact Bool.noConfusion h) | (have h' := h; try simp only [bl] at h'))
   | (refine r_ret ?_; simp only [resL, resA, Tryz.f23, lk_cons', lk_nil', Nat.reduceBEq]; first | exact ⟨rfl, Sb.nil _, rfl⟩ | refine ⟨rfl, sbt ?_, rfl⟩ | refine ⟨rfl, Sb.of_eq ?_, rfl⟩)
   | (refine And.intro (by first | exact True.intro | omega | rfl | exact Nat.le_of_ble_eq_true rfl | (simp only [lnn]; omega) | exact List.forall_mem_nil _ | (refine List.forall_mem_cons.2 ⟨⟨_, rfl⟩, ?_⟩; repeat' first | exact List.forall_mem_nil _ | refine List.forall_mem_cons.2 ⟨⟨_, rfl⟩, ?_⟩)) ?_)
   | ((first | refine call_pure' (k2) rfl ?_ | refine call_pure' (k3) rfl ?_ | refine call_pure' (k4) rfl ?_ | refine call_pure' (k5) rfl ?_); simp only [go_sem,simprocAttr,hset_at,hset_hset,hls])
   | (refine m_rn _ _ _ _ _ 1 _ rfl rfl ?_; rw [if_neg (by decide)]; simp only [cmK, rnA, List.map_cons, List.map_nil, go_sem,simprocAttr])
   | (refine v_run ?_)
   | (refine v_round ?_)
   | fail
  refine vc_ent ((ent_freezeH 6 (c := [.v (.string ⟨wCur.toArray⟩), .v (.string (itoaS t)), .v (.string (itoaS j)), .v (.string (itoaS m)), .v (.string (itoaS p))]) (by simp [hset']) rfl).trans (ent_rows (fr := [(3, .sl 1 5 (strs [⟨wCur.toArray⟩, itoaS t, itoaS j, itoaS m, itoaS p]))]) [] (by simp only [fzF, fz_other, fz_sl]; (repeat' first | exact trivial | refine ⟨?_, ?_⟩ | rfl)) rfl True.intro (Nat.le_refl _))) ?_
  repeat' first
   | refine v_seq ?_ | refine v_block ?_ | refine v_ret ?_ | refine v_skip ?_ | (refine v_exit ?_; repeat' first | refine xB_eq ?_ | refine xB_ne rfl ?_)
   | ((first | refine rgA fun K hK => ?_ | refine rgB rfl fun K hK => ?_ | refine rgC rfl fun K hK => ?_); simp only [go_sem,simprocAttr])
   | (simp (disch := first | omega | rfl | (simp only [lnn]; omega)) only [spl])
   | (refine hK _ ?_; clear hK K)
   | (refine gdB_intro (fun h => ?_) (fun h => ?_) <;> simp only [go_sem,simprocAttr,h] <;> (have h' := h; try simp only [bl] at h'))
   | (refine v_cond rfl (fun h => ?_) (fun h => ?_) <;> first | (exact Bool.noConfusion h) | (have h' := h; try simp only [bl] at h'))
   | (refine r_ret ?_; simp only [resL, resA, Tryz.f23, lk_cons', lk_nil', Nat.reduceBEq]; first | exact ⟨rfl, Sb.nil _, rfl⟩ | refine ⟨rfl, sbt ?_, rfl⟩ | refine ⟨rfl, Sb.of_eq ?_, rfl⟩)
   | (refine And.intro (by first | exact True.intro | omega | rfl | exact Nat.le_of_ble_eq_true rfl | (simp only [lnn]; omega) | exact List.forall_mem_nil _ | (refine List.forall_mem_cons.2 ⟨⟨_, rfl⟩, ?_⟩; repeat' first | exact List.forall_mem_nil _ | refine List.forall_mem_cons.2 ⟨⟨_, rfl⟩, ?_⟩)) ?_)
   | ((first | refine call_pure' (kJ) rfl ?_); simp only [go_sem,simprocAttr])
   | fail
theorem c_FormatRules (k w t j m p : Int) (hw : I64 w) (ht : I64 t) (hj : I64 j) (hm : I64 m) (hp : I64 p) : Pure Tryz.prog 23 [ruA k w t j m p] (.v (.string (ruS k w t j m p))) := by
  by_cases h0 : k = 0
  · subst h0; exact c_FormatRules0 w t j m p hw ht hj hm hp
  by_cases h1 : k = 1
  · subst h1; exact c_FormatRules1 w t j m p hw ht hj hm hp
  have hE : ruS k w t j m p = ⟨#[]⟩ := by unfold ruS; rw [if_neg (by omega)]
  have d0 : (k == 0) = false := by simpa using h0
  have d1 : (k == 1) = false := by simpa using h1
  rw [hE]
  refine p_intro evOk [1, 6, 15, 27] Tryz.func23 rfl Tryz.call23 ?_
  repeat' first
   | refine v_seq ?_ | refine v_block ?_ | refine v_ret ?_ | refine v_skip ?_ | (refine v_exit ?_; repeat' first | refine xB_eq ?_ | refine xB_ne rfl ?_)
   | ((first | refine rgA fun K hK => ?_ | refine rgB rfl fun K hK => ?_ | refine rgC rfl fun K hK => ?_); simp only [go_sem,simprocAttr,d0,d1,hset_at,hset_hset])
   | (simp (disch := first | omega | rfl | (simp only [lnn]; omega)) only [spl])
   | (refine hK _ ?_; clear hK K)
   | (refine gdB_intro (fun h => ?_) (fun h => ?_) <;> simp only [go_sem,simprocAttr,h,d0,d1,hset_at,hset_hset] <;> (have h' := h; try simp only [bl] at h'))
   | (refine v_cond rfl (fun h => ?_) (fun h => ?_) <;> first | (exact Bool.noConfusion h) | (have h' := h; try simp only [bl] at h'))
   | (refine r_ret ?_; simp only [resL, resA, Tryz.f23, lk_cons', lk_nil', Nat.reduceBEq]; first | exact ⟨rfl, Sb.nil _, rfl⟩ | refine ⟨rfl, sbt ?_, rfl⟩ | refine ⟨rfl, Sb.of_eq ?_, rfl⟩)
   | (refine And.intro (by first | exact True.intro | omega | rfl | exact Nat.le_of_ble_eq_true rfl | (simp only [lnn]; omega) | exact List.forall_mem_nil _ | (refine List.forall_mem_cons.2 ⟨⟨_, rfl⟩, ?_⟩; repeat' first | exact List.forall_mem_nil _ | refine List.forall_mem_cons.2 ⟨⟨_, rfl⟩, ?_⟩)) ?_)
   | fail
  all_goals rfl
end Go.Proofs.YtpdecefdhkhlnaaGreatDoor
set_option maxRecDepth 100000
set_option maxHeartbeats 4000000
set_option linter.unusedSimpArgs false
set_option linter.unusedVariables false
set_option linter.unusedSectionVars false
namespace Go.Proofs.YtpdecefdhkhlnaaGreatDoor
open Go.Ab Go.RowKit Go.Shelf Go.Proofs
attribute [local instance] drV loV
theorem c_SplitC (s : ByteArray) (hs : s.size ≤ 100000) : Pure Tryz.prog 51 [AV.v (.string s), AV.v (.string ⟨#[32]⟩)] (ssl ((cutL 32 (bys s)).map bar)) := by
  have h := c_Split s ⟨#[32]⟩ (by omega) (by decide)
  rwa [splitB_cut 32 s] at h
theorem kn_of (x : List UInt8) (h : x.length ≤ 100000) : Pure Tryz.prog 42 [.v (.string (bar x))] (.tu [iv (numV x), .v (.bool (numP 6 x))]) := c_number (bar x) (by show x.length ≤ _; omega)
theorem wC_eq (x : List UInt8) : ((bar x).toList == (⟨wCur.toArray⟩ : ByteArray).toList) = decide (x = wCur) := by
  have := str_eq x ⟨wCur.toArray⟩
  simpa using this
theorem wM_eq (x : List UInt8) : ((bar x).toList == (⟨wMed.toArray⟩ : ByteArray).toList) = decide (x = wMed) := by
  have := str_eq x ⟨wMed.toArray⟩
  simpa using this
theorem c_ParseRulesW (s : ByteArray) (hs : s.size ≤ 100000) (x : List UInt8) (W : List (List UInt8)) (hP : cutL 32 (bys s) = x :: W) (hb : ¬ ((x = wCur ∧ W.length = 4) ∨ (x = wMed ∧ W.length = 5))) :
    Pure Tryz.prog 24 [.v (.string s)] badRu := by
  have ks := c_SplitC s hs
  rw [hP] at ks
  have q1 := wC_eq x
  have q2 := wM_eq x
  have hlen : W.length ≤ 100000 := by
    have := cutL_length 32 (bys s)
    rw [hP] at this
    have hsl : (bys s).length = s.size := rfl
    simp at this; omega
  have hm : strs ((x :: W).map bar) = .v (.string (bar x)) :: strs (W.map bar) := rfl
  have hl : ((x :: W).map bar).length = W.length + 1 := by simp
  unfold ssl at ks
  rw [hm, hl] at ks
  have n5 : ∀ h : W.length ≠ 4, (((W.length + 1 : Nat) : Int) != 5) = true := fun h => by rw [bne_iff_ne]; omega
  have n6 : ∀ h : W.length ≠ 5, (((W.length + 1 : Nat) : Int) != 6) = true := fun h => by rw [bne_iff_ne]; omega
  by_cases h1 : x = wCur
  · have h2 : W.length ≠ 4 := fun h => hb (.inl ⟨h1, h⟩)
    have n5 := n5 h2
    rw [decide_eq_true h1] at q1
    refine p_intro evOk [2, 5, 25] Tryz.func24 rfl Tryz.call24 ?_
    repeat' first
     | refine v_seq ?_ | refine v_block ?_ | refine v_ret ?_ | refine v_skip ?_ | (refine v_exit ?_; repeat' first | refine xB_eq ?_ | refine xB_ne rfl ?_)
     | ((first | refine rgA fun K hK => ?_ | refine rgB rfl fun K hK => ?_ | refine rgC rfl fun K hK => ?_); simp only [go_sem,simprocAttr,q1,q2,n5,hset_at,hset_hset])
     | (simp (disch := first | omega | rfl | (simp only [lnn]; omega)) only [spl])
     | (refine hK _ ?_; clear hK K)
     | (refine gdB_intro (fun h => ?_) (fun h => ?_) <;> simp only [go_sem,simprocAttr,h,q1,q2,n5,hset_at,hset_hset] <;> (have h' := h; try simp only [bl] at h'))
     | (refine v_cond rfl (fun h => ?_) (fun h => ?_) <;> first | (exact Bool.noConfusion h) | (have h' := h; try simp only [bl] at h'))
     | (refine r_ret ?_; simp only [resL, resA, Tryz.f24, lk_cons', lk_nil', Nat.reduceBEq]; first | exact ⟨rfl, Sb.nil _, rfl⟩ | refine ⟨rfl, sbt ?_, rfl⟩ | refine ⟨rfl, Sb.of_eq ?_, rfl⟩)
     | (refine And.intro (by first | exact True.intro | omega | rfl | exact Nat.le_of_ble_eq_true rfl | (simp only [lnn]; omega) | exact List.forall_mem_nil _ | (refine List.forall_mem_cons.2 ⟨⟨_, rfl⟩, ?_⟩; repeat' first | exact List.forall_mem_nil _ | refine List.forall_mem_cons.2 ⟨⟨_, rfl⟩, ?_⟩)) ?_)
     | ((first | refine call_pure' (ks) rfl ?_); simp only [go_sem,simprocAttr,q1,q2,n5,hset_at,hset_hset])
     | (refine m_rn _ _ _ _ _ 1 _ rfl rfl ?_; rw [if_neg (by decide)]; simp only [cmK, rnA, List.map_cons, List.map_nil, go_sem,simprocAttr])
     | fail
    all_goals try (exfalso; omega)
    all_goals
      refine r_ret ?_
      simp only [resL, resA, Tryz.f24, go_sem,simprocAttr,hls,hset_at,hset_hset]
      first | exact Sb.of_eq rfl | exact ⟨rfl, Sb.of_eq rfl⟩ | exact ⟨Sb.of_eq rfl, rfl⟩ | exact ⟨Nat.le_of_ble_eq_true rfl, Sb.of_eq rfl⟩
  · rw [decide_eq_false h1] at q1
    by_cases h3 : x = wMed
    · have h2 : W.length ≠ 5 := fun h => hb (.inr ⟨h3, h⟩)
      have n6 := n6 h2
      rw [decide_eq_true h3] at q2
      refine p_intro evOk [2, 5, 25] Tryz.func24 rfl Tryz.call24 ?_
      repeat' first
       | refine v_seq ?_ | refine v_block ?_ | refine v_ret ?_ | refine v_skip ?_ | (refine v_exit ?_; repeat' first | refine xB_eq ?_ | refine xB_ne rfl ?_)
       | ((first | refine rgA fun K hK => ?_ | refine rgB rfl fun K hK => ?_ | refine rgC rfl fun K hK => ?_); simp only [go_sem,simprocAttr,q1,q2,n6,hset_at,hset_hset])
       | (simp (disch := first | omega | rfl | (simp only [lnn]; omega)) only [spl])
       | (refine hK _ ?_; clear hK K)
       | (refine gdB_intro (fun h => ?_) (fun h => ?_) <;> simp only [go_sem,simprocAttr,h,q1,q2,n6,hset_at,hset_hset] <;> (have h' := h; try simp only [bl] at h'))
       | (refine v_cond rfl (fun h => ?_) (fun h => ?_) <;> first | (exact Bool.noConfusion h) | (have h' := h; try simp only [bl] at h'))
       | (refine r_ret ?_; simp only [resL, resA, Tryz.f24, lk_cons', lk_nil', Nat.reduceBEq]; first | exact ⟨rfl, Sb.nil _, rfl⟩ | refine ⟨rfl, sbt ?_, rfl⟩ | refine ⟨rfl, Sb.of_eq ?_, rfl⟩)
       | (refine And.intro (by first | exact True.intro | omega | rfl | exact Nat.le_of_ble_eq_true rfl | (simp only [lnn]; omega) | exact List.forall_mem_nil _ | (refine List.forall_mem_cons.2 ⟨⟨_, rfl⟩, ?_⟩; repeat' first | exact List.forall_mem_nil _ | refine List.forall_mem_cons.2 ⟨⟨_, rfl⟩, ?_⟩)) ?_)
       | ((first | refine call_pure' (ks) rfl ?_); simp only [go_sem,simprocAttr,q1,q2,n6,hset_at,hset_hset])
       | (refine m_rn _ _ _ _ _ 0 _ rfl rfl ?_; rw [if_pos rfl]; simp only [cmK, rnA, List.map_cons, List.map_nil, go_sem,simprocAttr])
       | fail
      all_goals try (exfalso; omega)
      all_goals
        refine r_ret ?_
        simp only [resL, resA, Tryz.f24, go_sem,simprocAttr,hls,hset_at,hset_hset]
        first | exact Sb.of_eq rfl | exact ⟨rfl, Sb.of_eq rfl⟩ | exact ⟨Sb.of_eq rfl, rfl⟩ | exact ⟨Nat.le_of_ble_eq_true rfl, Sb.of_eq rfl⟩
    · rw [decide_eq_false h3] at q2
      refine p_intro evOk [2, 5, 25] Tryz.func24 rfl Tryz.call24 ?_
      repeat' first
       | refine v_seq ?_ | refine v_block ?_ | refine v_ret ?_ | refine v_skip ?_ | (refine v_exit ?_; repeat' first | refine xB_eq ?_ | refine xB_ne rfl ?_)
       | ((first | refine rgA fun K hK => ?_ | refine rgB rfl fun K hK => ?_ | refine rgC rfl fun K hK => ?_); simp only [go_sem,simprocAttr,q1,q2,hset_at,hset_hset])
       | (simp (disch := first | omega | rfl | (simp only [lnn]; omega)) only [spl])
       | (refine hK _ ?_; clear hK K)
       | (refine gdB_intro (fun h => ?_) (fun h => ?_) <;> simp only [go_sem,simprocAttr,h,q1,q2,hset_at,hset_hset] <;> (have h' := h; try simp only [bl] at h'))
       | (refine v_cond rfl (fun h => ?_) (fun h => ?_) <;> first | (exact Bool.noConfusion h) | (have h' := h; try simp only [bl] at h'))
       | (refine r_ret ?_; simp only [resL, resA, Tryz.f24, lk_cons', lk_nil', Nat.reduceBEq]; first | exact ⟨rfl, Sb.nil _, rfl⟩ | refine ⟨rfl, sbt ?_, rfl⟩ | refine ⟨rfl, Sb.of_eq ?_, rfl⟩)
       | (refine And.intro (by first | exact True.intro | omega | rfl | exact Nat.le_of_ble_eq_true rfl | (simp only [lnn]; omega) | exact List.forall_mem_nil _ | (refine List.forall_mem_cons.2 ⟨⟨_, rfl⟩, ?_⟩; repeat' first | exact List.forall_mem_nil _ | refine List.forall_mem_cons.2 ⟨⟨_, rfl⟩, ?_⟩)) ?_)
       | ((first | refine call_pure' (ks) rfl ?_); simp only [go_sem,simprocAttr,q1,q2,hset_at,hset_hset])
       | fail
      all_goals
        refine r_ret ?_
        simp only [resL, resA, Tryz.f24, go_sem,simprocAttr,hls,hset_at,hset_hset]
        first | exact Sb.of_eq rfl | exact ⟨rfl, Sb.of_eq rfl⟩ | exact ⟨Sb.of_eq rfl, rfl⟩ | exact ⟨Nat.le_of_ble_eq_true rfl, Sb.of_eq rfl⟩
theorem c_ParseRulesC (s : ByteArray) (hs : s.size ≤ 100000) (a b c d : List UInt8) (hP : cutL 32 (bys s) = [wCur, a, b, c, d]) :
    Pure Tryz.prog 24 [.v (.string s)] (prR okP numV [wCur, a, b, c, d]) := by
  have ks := c_SplitC s hs
  rw [hP] at ks
  have hz : ∀ x ∈ [wCur, a, b, c, d], x.length ≤ 100000 := fun x hx => by
    have := cutL_size 32 (bys s) x (by rw [hP]; exact hx)
    have hsl : (bys s).length = s.size := rfl
    omega
  have k1 := kn_of a (hz a (by simp))
  have k2 := kn_of b (hz b (by simp))
  have k3 := kn_of c (hz c (by simp))
  have k4 := kn_of d (hz d (by simp))
  have q1 : ((bar wCur).toList == (⟨wCur.toArray⟩ : ByteArray).toList) = true := by rw [wC_eq]; exact decide_eq_true rfl
  have kc := c_CheckRules 1 0 (numV a) (numV b) (numV c) (numV d)
  have hbad : (okP a && okP b && okP c && okP d) = false → prR okP numV [wCur, a, b, c, d] = badRu := fun h => by
    unfold prR; dsimp only; rw [if_neg]; rintro ⟨_, h2⟩; rw [h] at h2; cases h2
  have hgood : (okP a && okP b && okP c && okP d) = true → prR okP numV [wCur, a, b, c, d] = ruR 1 0 (numV a) (numV b) (numV c) (numV d) := fun h => by
    unfold prR; dsimp only; rw [if_pos ⟨rfl, h⟩]
  generalize prR okP numV [wCur, a, b, c, d] = RES at *
  unfold okP at hbad hgood
  change Pure _ _ _ (.sl 1 5 [.v (.string (bar wCur)), .v (.string (bar a)), .v (.string (bar b)), .v (.string (bar c)), .v (.string (bar d))]) at ks
  generalize numV a = va at *
  generalize numV b = vb at *
  generalize numV c = vc at *
  generalize numV d = vd at *
  generalize numP 6 a = pa at *
  generalize numP 6 b = pb at *
  generalize numP 6 c = pc at *
  generalize numP 6 d = pd at *
  refine p_intro evOk [2, 5, 25] Tryz.func24 rfl Tryz.call24 ?_
  repeat' first
   | refine v_seq ?_ | refine v_block ?_ | refine v_ret ?_ | refine v_skip ?_ | (refine v_exit ?_; repeat' first | refine xB_eq ?_ | refine xB_ne rfl ?_)
   | ((first | refine rgA fun K hK => ?_ | refine rgB rfl fun K hK => ?_ | refine rgC rfl fun K hK => ?_); simp only [go_sem,simprocAttr,q1,hset_at,hset_hset])
   | (simp (disch := first | omega | rfl | (simp only [lnn]; omega)) only [spl])
   | (refine hK _ ?_; clear hK K)
   | (refine gdB_intro (fun h => ?_) (fun h => ?_) <;> simp only [go_sem,simprocAttr,h,q1,hset_at,hset_hset] <;> (have h' := h; try simp only [bl] at h'))
   | (refine v_cond rfl (fun h => ?_) (fun h => ?_) <;> first | (exact Bool.noConfusion h) | (have h' := h; try simp only [bl] at h'))
   | (refine r_ret ?_; simp only [resL, resA, Tryz.f24, lk_cons', lk_nil', Nat.reduceBEq]; first | exact ⟨rfl, Sb.nil _, rfl⟩ | refine ⟨rfl, sbt ?_, rfl⟩ | refine ⟨rfl, Sb.of_eq ?_, rfl⟩)
   | (refine And.intro (by first | exact True.intro | omega | rfl | exact Nat.le_of_ble_eq_true rfl | (simp only [lnn]; omega) | exact List.forall_mem_nil _ | (refine List.forall_mem_cons.2 ⟨⟨_, rfl⟩, ?_⟩; repeat' first | exact List.forall_mem_nil _ | refine List.forall_mem_cons.2 ⟨⟨_, rfl⟩, ?_⟩)) ?_)
   | ((first | refine call_pure' (ks) rfl ?_ | refine call_pure' (k1) rfl ?_ | refine call_pure' (k2) rfl ?_ | refine call_pure' (k3) rfl ?_ | refine call_pure' (k4) rfl ?_ | refine call_pure' (kc) rfl ?_); simp only [go_sem,simprocAttr,q1,hset_at,hset_hset])
   | (refine m_rn _ _ _ _ _ 1 _ rfl rfl ?_; rw [if_neg (by decide)]; simp only [cmK, rnA, List.map_cons, List.map_nil, go_sem,simprocAttr])
   | (refine v_run ?_)
   | (refine v_round ?_)
   | fail
  all_goals first
    | (rw [hbad (by clear hbad hgood; simp_all)]
       refine r_ret ?_
       simp only [resL, resA, Tryz.f24, go_sem,simprocAttr,hls,hset_at,hset_hset]
       first | exact Sb.of_eq rfl | exact ⟨rfl, Sb.of_eq rfl⟩ | exact ⟨Sb.of_eq rfl, rfl⟩ | exact ⟨Nat.le_of_ble_eq_true rfl, Sb.of_eq rfl⟩)
    | (rw [hgood (by clear hbad hgood; simp_all)]
       unfold ruR
       rw [if_neg (by clear hbad hgood; simp_all)]
       refine r_ret ?_
       simp only [resL, resA, Tryz.f24, go_sem,simprocAttr,hls,hset_at,hset_hset]
       exact Sb.of_eq rfl)
    | (rw [hgood (by clear hbad hgood; simp_all)]
       unfold ruR
       rw [if_pos (by clear hbad hgood; simp_all)]
       refine r_ret ?_
       simp only [resL, resA, Tryz.f24, go_sem,simprocAttr,hls,hset_at,hset_hset]
       first | exact ⟨Nat.le_of_ble_eq_true rfl, Sb.of_eq rfl⟩ | exact ⟨Nat.le_of_ble_eq_true rfl, rfl, Sb.of_eq rfl⟩ | exact ⟨Nat.le_of_ble_eq_true rfl, Sb.of_eq rfl, rfl⟩)
    | (rw [hgood (by clear hbad hgood; simp_all)]
       unfold ruR
       rw [if_pos (by clear hbad hgood; simp_all)]
       refine r_ret ?_
       simp only [resL, resA, Tryz.f24, go_sem,simprocAttr,hls,hset_at,hset_hset]
       trace_state)
theorem c_ParseRulesM (s : ByteArray) (hs : s.size ≤ 100000) (a b c d e : List UInt8) (hP : cutL 32 (bys s) = [wMed, a, b, c, d, e]) :
    Pure Tryz.prog 24 [.v (.string s)] (prR okP numV [wMed, a, b, c, d, e]) := by
  have ks := c_SplitC s hs
  rw [hP] at ks
  have hz : ∀ x ∈ [wMed, a, b, c, d, e], x.length ≤ 100000 := fun x hx => by
    have := cutL_size 32 (bys s) x (by rw [hP]; exact hx)
    have hsl : (bys s).length = s.size := rfl
    omega
  have k1 := kn_of a (hz a (by simp))
  have k2 := kn_of b (hz b (by simp))
  have k3 := kn_of c (hz c (by simp))
  have k4 := kn_of d (hz d (by simp))
  have k5 := kn_of e (hz e (by simp))
  have q1 : ((bar wMed).toList == (⟨wCur.toArray⟩ : ByteArray).toList) = false := by rw [wC_eq]; exact decide_eq_false (by decide)
  have q2 : ((bar wMed).toList == (⟨wMed.toArray⟩ : ByteArray).toList) = true := by rw [wM_eq]; exact decide_eq_true rfl
  have kc := c_CheckRules 0 (numV a) (numV b) (numV c) (numV d) (numV e)
  have hbad : (okP a && okP b && okP c && okP d && okP e) = false → prR okP numV [wMed, a, b, c, d, e] = badRu := fun h => by
    unfold prR; dsimp only; rw [if_neg]; rintro ⟨_, h2⟩; rw [h] at h2; cases h2
  have hgood : (okP a && okP b && okP c && okP d && okP e) = true → prR okP numV [wMed, a, b, c, d, e] = ruR 0 (numV a) (numV b) (numV c) (numV d) (numV e) := fun h => by
    unfold prR; dsimp only; rw [if_pos ⟨rfl, h⟩]
  generalize prR okP numV [wMed, a, b, c, d, e] = RES at *
  unfold okP at hbad hgood
  change Pure _ _ _ (.sl 1 6 [.v (.string (bar wMed)), .v (.string (bar a)), .v (.string (bar b)), .v (.string (bar c)), .v (.string (bar d)), .v (.string (bar e))]) at ks
  generalize numV a = va at *
  generalize numV b = vb at *
  generalize numV c = vc at *
  generalize numV d = vd at *
  generalize numV e = ve at *
  generalize numP 6 a = pa at *
  generalize numP 6 b = pb at *
  generalize numP 6 c = pc at *
  generalize numP 6 d = pd at *
  generalize numP 6 e = pe at *
  refine p_intro evOk [2, 5, 25] Tryz.func24 rfl Tryz.call24 ?_
  repeat' first
   | refine v_seq ?_ | refine v_block ?_ | refine v_ret ?_ | refine v_skip ?_ | (refine v_exit ?_; repeat' first | refine xB_eq ?_ | refine xB_ne rfl ?_)
   | ((first | refine rgA fun K hK => ?_ | refine rgB rfl fun K hK => ?_ | refine rgC rfl fun K hK => ?_); simp only [go_sem,simprocAttr,q1,q2,hset_at,hset_hset])
   | (simp (disch := first | omega | rfl | (simp only [lnn]; omega)) only [spl])
   | (refine hK _ ?_; clear hK K)
   | (refine gdB_intro (fun h => ?_) (fun h => ?_) <;> simp only [go_sem,simprocAttr,h,q1,q2,hset_at,hset_hset] <;> (have h' := h; try simp only [bl] at h'))
   | (refine v_cond rfl (fun h => ?_) (fun h => ?_) <;> first | (exact Bool.noConfusion h) | (have h' := h; try simp only [bl] at h'))
   | (refine r_ret ?_; simp only [resL, resA, Tryz.f24, lk_cons', lk_nil', Nat.reduceBEq]; first | exact ⟨rfl, Sb.nil _, rfl⟩ | refine ⟨rfl, sbt ?_, rfl⟩ | refine ⟨rfl, Sb.of_eq ?_, rfl⟩)
   | (refine And.intro (by first | exact True.intro | omega | rfl | exact Nat.le_of_ble_eq_true rfl | (simp only [lnn]; omega) | exact List.forall_mem_nil _ | (refine List.forall_mem_cons.2 ⟨⟨_, rfl⟩, ?_⟩; repeat' first | exact List.forall_mem_nil _ | refine List.forall_mem_cons.2 ⟨⟨_, rfl⟩, ?_⟩)) ?_)
   | ((first | refine call_pure' (ks) rfl ?_ | refine call_pure' (k1) rfl ?_ | refine call_pure' (k2) rfl ?_ | refine call_pure' (k3) rfl ?_ | refine call_pure' (k4) rfl ?_ | refine call_pure' (k5) rfl ?_ | refine call_pure' (kc) rfl ?_); simp only [go_sem,simprocAttr,q1,q2,hset_at,hset_hset])
   | (refine m_rn _ _ _ _ _ 0 _ rfl rfl ?_; rw [if_pos rfl]; simp only [cmK, rnA, List.map_cons, List.map_nil, go_sem,simprocAttr])
   | (refine v_run ?_)
   | (refine v_round ?_)
   | fail
  all_goals first
    | (rw [hbad (by clear hbad hgood; simp_all)]
       refine r_ret ?_
       simp only [resL, resA, Tryz.f24, go_sem,simprocAttr,hls,hset_at,hset_hset]
       first | exact Sb.of_eq rfl | exact ⟨rfl, Sb.of_eq rfl⟩ | exact ⟨Sb.of_eq rfl, rfl⟩ | exact ⟨Nat.le_of_ble_eq_true rfl, Sb.of_eq rfl⟩)
    | (rw [hgood (by clear hbad hgood; simp_all)]
       unfold ruR
       rw [if_neg (by clear hbad hgood; simp_all)]
       refine r_ret ?_
       simp only [resL, resA, Tryz.f24, go_sem,simprocAttr,hls,hset_at,hset_hset]
       exact Sb.of_eq rfl)
    | (rw [hgood (by clear hbad hgood; simp_all)]
       unfold ruR
       rw [if_pos (by clear hbad hgood; simp_all)]
       refine r_ret ?_
       simp only [resL, resA, Tryz.f24, go_sem,simprocAttr,hls,hset_at,hset_hset]
       first | exact ⟨Nat.le_of_ble_eq_true rfl, Sb.of_eq rfl⟩ | exact ⟨Nat.le_of_ble_eq_true rfl, rfl, Sb.of_eq rfl⟩ | exact ⟨Nat.le_of_ble_eq_true rfl, Sb.of_eq rfl, rfl⟩)
    | (rw [hgood (by clear hbad hgood; simp_all)]
       unfold ruR
       rw [if_pos (by clear hbad hgood; simp_all)]
       refine r_ret ?_
       simp only [resL, resA, Tryz.f24, go_sem,simprocAttr,hls,hset_at,hset_hset]
       trace_state)
theorem c_ParseRules (s : ByteArray) (hs : s.size ≤ 100000) : Pure Tryz.prog 24 [.v (.string s)] (prR okP numV (cutL 32 (bys s))) := by
  cases hP : cutL 32 (bys s) with
  | nil => exact absurd hP (cutL_ne 32 _)
  | cons x W =>
    by_cases h : (x = wCur ∧ W.length = 4) ∨ (x = wMed ∧ W.length = 5)
    · rcases h with ⟨rfl, h⟩ | ⟨rfl, h⟩
      · match W, h with
        | [a, b, c, d], _ => exact c_ParseRulesC s hs a b c d hP
      · match W, h with
        | [a, b, c, d, e], _ => exact c_ParseRulesM s hs a b c d e hP
    · have hb : prR okP numV (x :: W) = badRu := by
        match W with
        | [] => rfl
        | [_] => rfl
        | [_, _] => rfl
        | [_, _, _] => rfl
        | [a, b, c, d] =>
          unfold prR; dsimp only; rw [if_neg]; rintro ⟨rfl, _⟩; exact h (.inl ⟨rfl, rfl⟩)
        | [a, b, c, d, e] =>
          unfold prR; dsimp only; rw [if_neg]; rintro ⟨rfl, _⟩; exact h (.inr ⟨rfl, rfl⟩)
        | _ :: _ :: _ :: _ :: _ :: _ :: _ => rfl
      rw [hb]
      exact c_ParseRulesW s hs x W hP h
end Go.Proofs.YtpdecefdhkhlnaaGreatDoor
set_option maxRecDepth 100000
set_option maxHeartbeats 4000000
set_option linter.unusedSimpArgs false
set_option linter.unusedVariables false
set_option linter.unusedSectionVars false
namespace Go.Ab
variable [Dr]
open Go.RowKit
theorem callOk_ls2 {P : Program} {f : FuncId} {H : Hp} {nx : Nat} {a0 : AV} {k off sz n : Nat} {c : List AV} {x : Value} (hp : a0.plain = true) (hk : H k = some c) (hpc : plainL c = true) (hle : off + n * sz ≤ c.length)
    (h : Pure P f [a0, .sl sz n ((c.drop off).take (n * sz))] (.v x)) : CallOk P f H nx [a0, .ls k off sz n] (.v x) := by
  refine ⟨h.can, fun B0 O0 β O w vs hc hB hr => ?_⟩
  let O' : Nat → Prop := fun b => O b ∧ ∀ st, β k ≠ some (some (b, st))
  have ht : Tr O w O' w := ⟨Nat.le_refl _, fun b hb ho => ⟨rfl, fun h => ho h.1⟩, fun b arr e fz hb => ⟨arr, fz, hb, rfl⟩⟩
  have hsl : ∀ u, R β O w (.ls k off sz n) u → R β O' w (.sl sz n ((c.drop off).take (n * sz))) u := by
    intro u hx
    rcases hx.ls_inv with ⟨h1, rfl, ad, rfl, had⟩ | ⟨b, st, cap, h1, hn, rfl, _⟩
    · simp only [Nat.zero_mul, List.take_zero]
      exact .pl _ _ (.nla sz ad)
    · rcases hc.row k c hk with ⟨h1', _⟩ | ⟨b', st', h1', _, _, hrow⟩
      · rw [h1] at h1'; cases h1'
      rw [h1] at h1'; cases h1'
      refine .pl _ _ (Rp.mk_sl (fun h => h.2 st h1) hrow.lt hn (by simp; omega) fun i y hi => ?_)
      rw [List.getElem?_take] at hi
      split at hi
      · rw [List.getElem?_drop] at hi
        rw [Nat.add_assoc]
        obtain ⟨v, p, q⟩ := hrow.cell hi
        exact ⟨v, p, (q.plain (plainL_get hpc hi)).mono ht⟩
      · cases hi
  have hpl : AV.plain (.sl sz n ((c.drop off).take (n * sz))) = true := by
    simp only [AV.plain]
  have hrps : Rps O' w [a0, .sl sz n ((c.drop off).take (n * sz))] vs := by
    refine ⟨hr.1, fun i a ha => ?_⟩
    match i, ha with
    | 0, ha =>
      simp at ha; subst ha
      obtain ⟨y, h1, h2⟩ := hr.2 0 _ rfl
      exact ⟨y, h1, (h2.plain hp).mono ht⟩
    | 1, ha =>
      simp at ha; subst ha
      obtain ⟨y, h1, h2⟩ := hr.2 1 _ rfl
      exact ⟨y, h1, (hsl y h2).plain hpl⟩
    | i + 2, ha => simp at ha
  refine (h.run O' w vs hrps (hc.own.tr ht fun b hb => hc.own.1 b hb.1)).mono fun e w' ⟨v, h1, h2, h3⟩ => ⟨v, h1, h2, ?_⟩
  rw [h3.v_inv]
  exact R.vv x
end Go.Ab
namespace Go.Proofs.YtpdecefdhkhlnaaGreatDoor
open Go.Ab Go.RowKit Go.Shelf Go.Proofs
variable [Dr]
abbrev itB (v : Int) : ByteArray := ⟨(Lib.itoa v).toArray⟩
theorem itB_size (v : Int) (h : I64 v) : (itB v).size ≤ 21 := by
  unfold I64 at h
  show (Lib.itoa v).length ≤ 21
  have hd : (Lib.decDigits v.natAbs).length ≤ 20 := by
    by_cases h0 : v.natAbs = 0
    · rw [h0, digits_zero]; decide
    · have := digs_len 20 v.natAbs (by omega)
      unfold digs at this
      rwa [if_neg h0] at this
  unfold Lib.itoa
  by_cases h0 : v < 0
  · rw [if_pos h0]; simp only [List.length_cons]; omega
  · rw [if_neg h0, show v.toNat = v.natAbs by omega]; omega
def refJ (e : Bool) (w : ByteArray) (l : List Int) : Nat → ByteArray
  | 0 => w
  | i + 1 => (bif decide (0 < i) || !e then refJ e w l i ++ (⟨#[32]⟩ : ByteArray) else refJ e w l i) ++ itB (gi l i)
theorem refJ_size (e : Bool) (w : ByteArray) (l : List Int) (hw : w.size ≤ 100) (hb : ∀ v ∈ l, I64 v) : ∀ i, i ≤ l.length → (refJ e w l i).size ≤ 100 + 22 * i
  | 0, _ => by unfold refJ; omega
  | i + 1, h => by
    have ih := refJ_size e w l hw hb i (by omega)
    have h1 := itB_size (gi l i) (hb _ (by rw [gi, Int.toNat_natCast]; simp [List.getD_eq_getElem?_getD, show i < l.length by omega]))
    have z2 : (⟨#[32]⟩ : ByteArray).size = 1 := rfl
    unfold refJ
    cases decide (0 < i) || !e
    · simp only [cond_false, ByteArray.size_append]; omega
    · simp only [cond_true, ByteArray.size_append]; omega
theorem c_refJoin (e : Bool) (w : ByteArray) (l : List Int) (hl : l.length ≤ 1000) (hw : w.size ≤ 100) (he : (w.toList == (⟨#[]⟩ : ByteArray).toList) = e) (hb : ∀ v ∈ l, I64 v) :
    Pure Tryz.prog 55 [.v (.string w), isl l] (.v (.string (refJ e w l l.length))) := by
  refine p_intro evOk [] Tryz.func55 rfl Tryz.call55 ?_
  repeat' first
   | refine v_seq ?_ | refine v_block ?_ | refine v_ret ?_ | refine v_skip ?_ | (refine v_exit ?_; repeat' first | refine xB_eq ?_ | refine xB_ne rfl ?_)
   | ((first | refine rgA fun K hK => ?_ | refine rgB rfl fun K hK => ?_ | refine rgC rfl fun K hK => ?_); simp only [go_sem,simprocAttr])
   | (simp (disch := first | omega | rfl | (simp only [lnn]; omega)) only [spl])
   | (refine hK _ ?_; clear hK K)
   | (refine gdB_intro (fun h => ?_) (fun h => ?_) <;> simp only [go_sem,simprocAttr,h] <;> (have h' := h; try simp only [bl] at h'))
   | (refine v_cond rfl (fun h => ?_) (fun h => ?_) <;> first | (exact Bool.noConfusion h) | (have h' := h; try simp only [bl] at h'))
   | (refine r_ret ?_; simp only [resL, resA, Tryz.f55, lk_cons', lk_nil', Nat.reduceBEq]; first | exact ⟨rfl, Sb.nil _, rfl⟩ | refine ⟨rfl, sbt ?_, rfl⟩ | refine ⟨rfl, Sb.of_eq ?_, rfl⟩)
   | (refine And.intro (by first | exact True.intro | omega | rfl | exact Nat.le_of_ble_eq_true rfl | (simp only [lnn]; omega) | exact List.forall_mem_nil _ | (refine List.forall_mem_cons.2 ⟨⟨_, rfl⟩, ?_⟩; repeat' first | exact List.forall_mem_nil _ | refine List.forall_mem_cons.2 ⟨⟨_, rfl⟩, ?_⟩)) ?_)
   | fail
  refine v_loop (T := Nat) (fun i => ⟨[(0, .v (.string w)), (1, isl l), (5, .v (.string (refJ e w l i))), (6, iv i)], emp, 0, (30, 0, 0)⟩) (fun i => i ≤ l.length) (fun i => l.length - i) 0 (by omega) (by (refine ent_eq ?_ rfl rfl rfl; repeat' first | exact trivial | refine ⟨?_, ?_⟩ | rfl)) ?_
  intro i hi
  by_cases hi2 : i < l.length
  · have hd : decide ((i : Int) < l.length) = true := decide_eq_true (by omega)
    have hm : gi l i ∈ l := by rw [gi, Int.toNat_natCast]; simp [List.getD_eq_getElem?_getD, hi2]
    have k1 := c_Decimal (gi l i) (hb _ hm)
    have h0 := refJ_size e w l hw hb i hi
    have h1 := itB_size _ (hb _ hm)
    have h1' : (Lib.itoa (gi l i)).toArray.size ≤ 21 := h1
    have z2 : (⟨#[32]⟩ : ByteArray).size = 1 := rfl
    have hde : decide (0 < (i : Int)) = decide (0 < i) := by simp
    have hdi : decide ((i : Int) > 0) = decide (0 < i) := by simp
    have hj : refJ e w l (i + 1) = (bif decide (0 < i) || !e then refJ e w l i ++ (⟨#[32]⟩ : ByteArray) else refJ e w l i) ++ itB (gi l i) := rfl
    cases h0i : decide (0 < i) <;> cases e
    all_goals
      rw [h0i] at hj hde hdi
      simp only [Bool.true_or, Bool.false_or, Bool.not_false, Bool.not_true, cond_true, cond_false] at hj
      repeat' first
       | refine v_seq ?_ | refine v_block ?_ | refine v_ret ?_ | refine v_skip ?_ | (refine v_exit ?_; repeat' first | refine xB_eq ?_ | refine xB_ne rfl ?_)
       | ((first | refine rgA fun K hK => ?_ | refine rgB rfl fun K hK => ?_ | refine rgC rfl fun K hK => ?_); simp only [go_sem,simprocAttr,hd,hde,hdi,he,z2,ByteArray.size_append])
       | (simp (disch := first | omega | rfl | (simp only [lnn]; omega)) only [spl])
       | (refine hK _ ?_; clear hK K)
       | (refine gdB_intro (fun h => ?_) (fun h => ?_) <;> simp only [go_sem,simprocAttr,h,hd,hde,hdi,he,z2,ByteArray.size_append] <;> (have h' := h; try simp only [bl] at h'))
       | (refine v_cond rfl (fun h => ?_) (fun h => ?_) <;> first | (exact Bool.noConfusion h) | (have h' := h; try simp only [bl] at h'))
       | (refine r_ret ?_; simp only [resL, resA, Tryz.f55, lk_cons', lk_nil', Nat.reduceBEq]; first | exact ⟨rfl, Sb.nil _, rfl⟩ | refine ⟨rfl, sbt ?_, rfl⟩ | refine ⟨rfl, Sb.of_eq ?_, rfl⟩)
       | (refine And.intro (by first | exact True.intro | omega | rfl | exact Nat.le_of_ble_eq_true rfl | (simp only [lnn]; omega) | exact List.forall_mem_nil _ | (refine List.forall_mem_cons.2 ⟨⟨_, rfl⟩, ?_⟩; repeat' first | exact List.forall_mem_nil _ | refine List.forall_mem_cons.2 ⟨⟨_, rfl⟩, ?_⟩)) ?_)
       | ((first | refine call_pure' (k1) rfl ?_); simp only [go_sem,simprocAttr,hd,hde,hdi,he,z2,ByteArray.size_append])
       | (simp only [ByteArray.size_append, z2])
       | fail
      try (refine ⟨i + 1, ?_, by omega, by omega⟩; rw [hj]; (refine ent_eq ?_ rfl rfl rfl; repeat' first | exact trivial | refine ⟨?_, ?_⟩ | rfl))
  · obtain rfl : i = l.length := by omega
    have hd : decide ((l.length : Int) < l.length) = false := decide_eq_false (by omega)
    repeat' first
     | refine v_seq ?_ | refine v_block ?_ | refine v_ret ?_ | refine v_skip ?_ | (refine v_exit ?_; repeat' first | refine xB_eq ?_ | refine xB_ne rfl ?_)
     | ((first | refine rgA fun K hK => ?_ | refine rgB rfl fun K hK => ?_ | refine rgC rfl fun K hK => ?_); simp only [go_sem,simprocAttr,hd])
     | (simp (disch := first | omega | rfl | (simp only [lnn]; omega)) only [spl])
     | (refine hK _ ?_; clear hK K)
     | (refine gdB_intro (fun h => ?_) (fun h => ?_) <;> simp only [go_sem,simprocAttr,h,hd] <;> (have h' := h; try simp only [bl] at h'))
     | (refine v_cond rfl (fun h => ?_) (fun h => ?_) <;> first | (exact Bool.noConfusion h) | (have h' := h; try simp only [bl] at h'))
     | (refine r_ret ?_; simp only [resL, resA, Tryz.f55, lk_cons', lk_nil', Nat.reduceBEq]; first | exact ⟨rfl, Sb.nil _, rfl⟩ | refine ⟨rfl, sbt ?_, rfl⟩ | refine ⟨rfl, Sb.of_eq ?_, rfl⟩)
     | (refine And.intro (by first | exact True.intro | omega | rfl | exact Nat.le_of_ble_eq_true rfl | (simp only [lnn]; omega) | exact List.forall_mem_nil _ | (refine List.forall_mem_cons.2 ⟨⟨_, rfl⟩, ?_⟩; repeat' first | exact List.forall_mem_nil _ | refine List.forall_mem_cons.2 ⟨⟨_, rfl⟩, ?_⟩)) ?_)
     | fail
    all_goals rfl
theorem c_refFormatRules (k w t j m p : Int) (hw : I64 w) (ht : I64 t) (hj : I64 j) (hm : I64 m) (hp : I64 p) :
    Pure Tryz.prog 27 [.ag [iv k, iv w, iv t, iv j, iv m, iv p]] (.v (.string (if k = 0 then refJ false ⟨#[109, 101, 100, 105, 97, 110]⟩ [w, t, j, m, p] 5 else if k = 1 then refJ false ⟨#[99, 117, 114, 118, 101]⟩ [t, j, m, p] 4 else ⟨#[]⟩))) := by
  have k0 := c_refJoin false ⟨#[109, 101, 100, 105, 97, 110]⟩ [w, t, j, m, p] (by simp) (by decide) ((str_eq [109, 101, 100, 105, 97, 110] ⟨#[]⟩).trans (decide_eq_false (by decide))) (fun v hv => by
    simp only [List.mem_cons, List.not_mem_nil, or_false] at hv
    rcases hv with rfl | rfl | rfl | rfl | rfl <;> assumption)
  have k1 := c_refJoin false ⟨#[99, 117, 114, 118, 101]⟩ [t, j, m, p] (by simp) (by decide) ((str_eq [99, 117, 114, 118, 101] ⟨#[]⟩).trans (decide_eq_false (by decide))) (fun v hv => by
    simp only [List.mem_cons, List.not_mem_nil, or_false] at hv
    rcases hv with rfl | rfl | rfl | rfl <;> assumption)
  change Pure _ _ [_, .sl 1 5 [iv w, iv t, iv j, iv m, iv p]] _ at k0
  change Pure _ _ [_, .sl 1 4 [iv t, iv j, iv m, iv p]] _ at k1
  by_cases h0 : k = 0
  · subst h0
    rw [if_pos rfl]
    refine p_intro evOk [] Tryz.func27 rfl Tryz.call27 ?_
    repeat' first
     | refine v_seq ?_ | refine v_block ?_ | refine v_ret ?_ | refine v_skip ?_ | (refine v_exit ?_; repeat' first | refine xB_eq ?_ | refine xB_ne rfl ?_)
     | ((first | refine rgA fun K hK => ?_ | refine rgB rfl fun K hK => ?_ | refine rgC rfl fun K hK => ?_); simp only [go_sem,simprocAttr])
     | (simp (disch := first | omega | rfl | (simp only [lnn]; omega)) only [spl])
     | (refine hK _ ?_; clear hK K)
     | (refine gdB_intro (fun h => ?_) (fun h => ?_) <;> simp only [go_sem,simprocAttr,h] <;> (have h' := h; try simp only [bl] at h'))
     | (refine v_cond rfl (fun h => ?_) (fun h => ?_) <;> first | (exact Bool.noConfusion h) | (have h' := h; try simp only [bl] at h'))
     | (refine r_ret ?_; simp only [resL, resA, Tryz.f27, lk_cons', lk_nil', Nat.reduceBEq]; first | exact ⟨rfl, Sb.nil _, rfl⟩ | refine ⟨rfl, sbt ?_, rfl⟩ | refine ⟨rfl, Sb.of_eq ?_, rfl⟩)
     | (refine And.intro (by first | exact True.intro | omega | rfl | exact Nat.le_of_ble_eq_true rfl | (simp only [lnn]; omega) | exact List.forall_mem_nil _ | (refine List.forall_mem_cons.2 ⟨⟨_, rfl⟩, ?_⟩; repeat' first | exact List.forall_mem_nil _ | refine List.forall_mem_cons.2 ⟨⟨_, rfl⟩, ?_⟩)) ?_)
     | ((first | refine call_pure' (k0) rfl ?_); simp only [go_sem,simprocAttr])
     | fail
    all_goals rfl
  have d0 : (k == 0) = false := by simpa using h0
  rw [if_neg h0]
  by_cases h1 : k = 1
  · subst h1
    rw [if_pos rfl]
    refine p_intro evOk [] Tryz.func27 rfl Tryz.call27 ?_
    repeat' first
     | refine v_seq ?_ | refine v_block ?_ | refine v_ret ?_ | refine v_skip ?_ | (refine v_exit ?_; repeat' first | refine xB_eq ?_ | refine xB_ne rfl ?_)
     | ((first | refine rgA fun K hK => ?_ | refine rgB rfl fun K hK => ?_ | refine rgC rfl fun K hK => ?_); simp only [go_sem,simprocAttr])
     | (simp (disch := first | omega | rfl | (simp only [lnn]; omega)) only [spl])
     | (refine hK _ ?_; clear hK K)
     | (refine gdB_intro (fun h => ?_) (fun h => ?_) <;> simp only [go_sem,simprocAttr,h] <;> (have h' := h; try simp only [bl] at h'))
     | (refine v_cond rfl (fun h => ?_) (fun h => ?_) <;> first | (exact Bool.noConfusion h) | (have h' := h; try simp only [bl] at h'))
     | (refine r_ret ?_; simp only [resL, resA, Tryz.f27, lk_cons', lk_nil', Nat.reduceBEq]; first | exact ⟨rfl, Sb.nil _, rfl⟩ | refine ⟨rfl, sbt ?_, rfl⟩ | refine ⟨rfl, Sb.of_eq ?_, rfl⟩)
     | (refine And.intro (by first | exact True.intro | omega | rfl | exact Nat.le_of_ble_eq_true rfl | (simp only [lnn]; omega) | exact List.forall_mem_nil _ | (refine List.forall_mem_cons.2 ⟨⟨_, rfl⟩, ?_⟩; repeat' first | exact List.forall_mem_nil _ | refine List.forall_mem_cons.2 ⟨⟨_, rfl⟩, ?_⟩)) ?_)
     | ((first | refine call_pure' (k1) rfl ?_); simp only [go_sem,simprocAttr])
     | fail
    all_goals rfl
  have d1 : (k == 1) = false := by simpa using h1
  rw [if_neg h1]
  refine p_intro evOk [] Tryz.func27 rfl Tryz.call27 ?_
  repeat' first
   | refine v_seq ?_ | refine v_block ?_ | refine v_ret ?_ | refine v_skip ?_ | (refine v_exit ?_; repeat' first | refine xB_eq ?_ | refine xB_ne rfl ?_)
   | ((first | refine rgA fun K hK => ?_ | refine rgB rfl fun K hK => ?_ | refine rgC rfl fun K hK => ?_); simp only [go_sem,simprocAttr,d0,d1])
   | (simp (disch := first | omega | rfl | (simp only [lnn]; omega)) only [spl])
   | (refine hK _ ?_; clear hK K)
   | (refine gdB_intro (fun h => ?_) (fun h => ?_) <;> simp only [go_sem,simprocAttr,h,d0,d1] <;> (have h' := h; try simp only [bl] at h'))
   | (refine v_cond rfl (fun h => ?_) (fun h => ?_) <;> first | (exact Bool.noConfusion h) | (have h' := h; try simp only [bl] at h'))
   | (refine r_ret ?_; simp only [resL, resA, Tryz.f27, lk_cons', lk_nil', Nat.reduceBEq]; first | exact ⟨rfl, Sb.nil _, rfl⟩ | refine ⟨rfl, sbt ?_, rfl⟩ | refine ⟨rfl, Sb.of_eq ?_, rfl⟩)
   | (refine And.intro (by first | exact True.intro | omega | rfl | exact Nat.le_of_ble_eq_true rfl | (simp only [lnn]; omega) | exact List.forall_mem_nil _ | (refine List.forall_mem_cons.2 ⟨⟨_, rfl⟩, ?_⟩; repeat' first | exact List.forall_mem_nil _ | refine List.forall_mem_cons.2 ⟨⟨_, rfl⟩, ?_⟩)) ?_)
   | fail
  all_goals rfl
theorem c_refFormatHum (p f : Int) (ts : List Int) (hl : ts.length ≤ 900) (hb : ∀ v ∈ p :: f :: ts, I64 v) :
    Pure Tryz.prog 28 [.ag [iv p, iv f, isl ts]] (.v (.string (refJ true ⟨#[]⟩ (p :: f :: ts) (ts.length + 2)))) := by
  have k0 := c_refJoin true ⟨#[]⟩ (p :: f :: ts) (by simp; omega) (by decide) ((str_eq [] ⟨#[]⟩).trans (decide_eq_true rfl)) hb
  change Pure _ _ [_, .sl 1 (ts.length + 2) (iv p :: iv f :: ints ts)] (.v (.string (refJ true ⟨#[]⟩ (p :: f :: ts) (ts.length + 2)))) at k0
  generalize refJ true ⟨#[]⟩ (p :: f :: ts) (ts.length + 2) = RES at *
  refine p_intro evOk [7, 10] Tryz.func28 rfl Tryz.call28 ?_
  have htk : List.take 2 (ints [p, f]) ++ ints ts = iv p :: iv f :: ints ts := rfl
  have h2 : 2 + ts.length = ts.length + 2 := by omega
  have hpl : plainL (iv p :: iv f :: ints ts) = true := ints_plain (p :: f :: ts)
  have hlen : (iv p :: iv f :: ints ts).length = ts.length + 2 := by simp [ints_length]
  have k1 : Pure Tryz.prog 55 [.v (.string ⟨#[]⟩), .sl 1 (ts.length + 2) (((iv p :: iv f :: ints ts).drop 0).take ((ts.length + 2) * 1))] (.v (.string RES)) := by
    rw [List.drop_zero, List.take_of_length_le (by omega)]
    exact k0
  repeat' first
   | refine v_seq ?_ | refine v_block ?_ | refine v_ret ?_ | refine v_skip ?_ | (refine v_exit ?_; repeat' first | refine xB_eq ?_ | refine xB_ne rfl ?_)
   | ((first | refine rgA fun K hK => ?_ | refine rgB rfl fun K hK => ?_ | refine rgC rfl fun K hK => ?_); simp only [go_sem,simprocAttr,htk,h2])
   | (simp (disch := first | omega | rfl | (simp only [lnn]; omega)) only [spl])
   | (refine hK _ ?_; clear hK K)
   | (refine gdB_intro (fun h => ?_) (fun h => ?_) <;> simp only [go_sem,simprocAttr,h,htk,h2] <;> (have h' := h; try simp only [bl] at h'))
   | (refine v_cond rfl (fun h => ?_) (fun h => ?_) <;> first | (exact Bool.noConfusion h) | (have h' := h; try simp only [bl] at h'))
   | (refine r_ret ?_; simp only [resL, resA, Tryz.f28, lk_cons', lk_nil', Nat.reduceBEq]; first | exact ⟨rfl, Sb.nil _, rfl⟩ | refine ⟨rfl, sbt ?_, rfl⟩ | refine ⟨rfl, Sb.of_eq ?_, rfl⟩)
   | (refine And.intro (by first | exact True.intro | omega | rfl | exact Nat.le_of_ble_eq_true rfl | (simp only [lnn]; omega) | exact List.forall_mem_nil _ | (refine List.forall_mem_cons.2 ⟨⟨_, rfl⟩, ?_⟩; repeat' first | exact List.forall_mem_nil _ | refine List.forall_mem_cons.2 ⟨⟨_, rfl⟩, ?_⟩)) ?_)
   | (refine ⟨_, callOk_ls2 (c := iv p :: iv f :: ints ts) rfl (hset_at _ _ _) hpl (by omega) k1, ?_⟩; simp only [go_sem,simprocAttr])
   | fail
  all_goals rfl
end Go.Proofs.YtpdecefdhkhlnaaGreatDoor
set_option linter.unusedVariables false
set_option linter.unusedSectionVars false
set_option linter.unusedSimpArgs false
namespace Go.Ab
variable [Dr]
open Go.RowKit
def mkL (n m : Nat) : Array Bool := ((List.range n).map fun i => m.testBit i).toArray
theorem mkL_size (n m : Nat) : (mkL n m).size = n := by simp [mkL]
theorem mkL_set (n m i : Nat) : (mkL n m).setIfInBounds i true = mkL n (m ||| 2 ^ i) := by
  refine Array.ext_getElem? fun j => ?_
  rw [Array.getElem?_setIfInBounds, mkL_size]
  simp only [mkL, List.getElem?_toArray, List.getElem?_map, Nat.testBit_or, Nat.testBit_two_pow]
  by_cases hij : i = j
  · subst hij
    rw [if_pos rfl]
    by_cases hn : i < n
    · rw [if_pos hn, List.getElem?_range hn]; simp
    · rw [if_neg hn, List.getElem?_eq_none (by simp; omega)]; rfl
  · rw [if_neg hij]
    by_cases hn : j < n
    · rw [List.getElem?_range hn]; simp [hij]
    · rw [List.getElem?_eq_none (by simp; omega)]; rfl
def dagOk (ops : Array Oper) (es : List (Nat × Nat)) (mf m : Nat) : Bool :=
  (Region.ready .any ops (mkL ops.size m)).all (fun i => es.contains (m, i)) && (!(Region.ready .any ops (mkL ops.size m)).isEmpty || m == mf)
def dagB (mu : List Nat) (l : List Oper) (fs : List Nat) (es : List (Nat × Nat)) (m0 mf : Nat) : Bool :=
  noSel l && firstB mu l.toArray fs (Array.replicate l.length false) && (listed fs (Array.replicate l.length false) == mkL l.length m0) && dagOk l.toArray es mf m0 && es.all fun e => dagOk l.toArray es mf (e.1 ||| 2 ^ e.2)
def dagS (E : Ev) (mu : List Nat) (ops : Array Oper) (S : Nat → St) (e : Nat × Nat) : Prop :=
  match ops[e.2]? with
  | some o => wpA E mu ops [o] (S e.1) fun σ' => Ent σ' (S (e.1 ||| 2 ^ e.2))
  | none => False
section
variable {E : Ev} {mu : List Nat} {ops : Array Oper} {Q : Exit → Act → World → Prop}
theorem dag_any (hE : EvOk E) (hY : YOk E) {K : St → Prop} {S : Nat → St} {es : List (Nat × Nat)} {mf : Nat} (hes : ∀ e ∈ es, dagOk ops es mf (e.1 ||| 2 ^ e.2) = true) (hst : ∀ e ∈ es, dagS E mu ops S e) (hN : K (S mf)) :
    ∀ (fuel m : Nat) (g : Gh) (β : Bt) (O : Nat → Prop) (a : Act) (w : World), Fit E g (S m) → Cn g β O (S m) a w → dagOk ops es mf m = true →
    ops.size ≤ fuel + (mkL ops.size m).toList.countP (· == true) → (∀ a' w', NxtP E g K a' w' → Q .normal a' w') → wpAnyIn (Fn E.ro) 0 E.P .any ops Q fuel (mkL ops.size m) a w := by
  intro fuel
  have fin : ∀ (m : Nat) (g : Gh) (β : Bt) (O : Nat → Prop) (a : Act) (w : World), Region.ready .any ops (mkL ops.size m) = [] → dagOk ops es mf m = true → Fit E g (S m) → Cn g β O (S m) a w → (∀ a' w', NxtP E g K a' w' → Q .normal a' w') → Q .normal a w := by
    intro m g β O a w hr hok hf hc hK
    simp only [dagOk, hr, List.isEmpty_nil, Bool.not_true, Bool.false_or, Bool.and_eq_true, beq_iff_eq] at hok
    obtain rfl := hok.2
    exact hK a w ⟨g, β, O, _, Le.refl _ _, hf, hN, hc⟩
  induction fuel with
  | zero =>
    intro m g β O a w hf hc hok hcount hK
    have hr := none_left (ops := ops) (mkL_size ops.size m) (by omega)
    exact ⟨hr, fin m g β O a w hr hok hf hc hK⟩
  | succ fuel ih =>
    intro m g β O a w hf hc hok hcount hK
    refine ⟨fun hr => fin m g β O a w hr hok hf hc hK, fun i hi => ?_⟩
    have hmem : (m, i) ∈ es := by
      simp only [dagOk, Bool.and_eq_true, List.all_eq_true] at hok
      simpa using hok.1 i hi
    have h1 := hst _ hmem
    unfold dagS at h1
    dsimp only at h1
    cases ho : ops[i]? with
    | none => rw [ho] at h1; exact h1.elim
    | some o =>
      rw [ho] at h1
      have h4 := opS_ok (Q := Q) hE hY hf hc (show opS E mu ops o (S m) _ from h1)
      have h5 : wpOpIn (Fn E.ro) 0 E.P ops Q i (NxtP E g fun σ' => wpA E mu ops [] σ' fun σ' => Ent σ' (S (m ||| 2 ^ i))) a w := by
        unfold wpOpIn
        rw [ho]
        exact h4
      have hisz : i < (mkL ops.size m).size := by rw [mkL_size]; exact (Array.getElem?_eq_some_iff.1 ho).1
      have hu := (mem_ready.1 hi).1
      refine wpOpIn_mono (fun a' w' ⟨g', β', O', σ', hl, hf', h6, hc'⟩ => ?_) h5
      have h6 : Ent σ' (S (m ||| 2 ^ i)) := h6
      obtain ⟨β2, O2, hc2⟩ := h6.run g' β' O' a' w' hc'
      have hf2 : Fit E g' (S (m ||| 2 ^ i)) := Fit.n (σ := σ') (σ' := S (m ||| 2 ^ i)) hf' h6.n
      have hok2 : dagOk ops es mf (m ||| 2 ^ i) = true := hes (m, i) hmem
      have hcnt : ops.size ≤ fuel + (mkL ops.size (m ||| 2 ^ i)).toList.countP (· == true) := by
        rw [← mkL_set, count_set hisz hu]; omega
      rw [mkL_set]
      generalize m ||| 2 ^ i = m' at *
      exact ih m' g' β2 O2 a' w' hf2 hc2 hok2 hcnt fun a'' w'' ⟨g'', β'', O'', σ'', hl', h7⟩ => hK a'' w'' ⟨g'', β'', O'', σ'', hl.trans hl', h7⟩
end
theorem v_dag {E : Ev} {mu : List Nat} {N : St → Prop} {X : Nat → St → Prop} {R : St → Prop} {σ : St} (hE : EvOk E) (hro : E.ro = none) {id : Nat} {l : List Oper} (fs : List Nat) (es : List (Nat × Nat)) (m0 mf : Nat) (S : Nat → St) (hb : dagB mu l fs es m0 mf = true)
    (hN : N (S mf)) (h0 : wpA E mu l.toArray (fs.filterMap fun i => l.toArray[i]?) σ fun σ1 => Ent σ1 (S m0)) (hst : ∀ e ∈ es, dagS E mu l.toArray S e) : VC E mu (.region id l.toArray true) ⟨N, X, R⟩ σ := by
  intro hY g β O a w hf hc
  simp only [dagB, Bool.and_eq_true, beq_iff_eq, List.all_eq_true] at hb
  obtain ⟨⟨⟨⟨b1, b2⟩, b3⟩, b4⟩, b5⟩ := hb
  refine wpIn_region_any hE.mix ?_
  have hdrew : Gr w { w with drawn := w.drawn + 1 } := (Gr.refl _).drew
  have hsel : ∀ (j : Nat) (o : Oper) cs b, l.toArray[j]? = some o → o.op ≠ .select cs b := fun j o cs b ho e => by
    unfold noSel at b1
    rw [List.all_eq_true] at b1
    have hm : o ∈ l := by
      have := List.mem_of_getElem? (show l[j]? = some o by simpa using ho)
      exact this
    have := b1 o hm
    rw [e] at this
    cases this
  refine first_any (Q := PC E g ⟨N, X, R⟩) (mu := mu) (K1 := fun σ1 => Ent σ1 (S m0)) hE hro hsel (fun c a w hq => hq) fs (Array.replicate l.length false) l.toArray.size σ β O a _ hf (hc.gr hdrew) b2 (by simp) (by omega) h0 fun fuel' σ' β' O' a' w' f1 f2 f3 f4 f5 => ?_
  obtain ⟨β2, O2, hc2⟩ := f5.run g β' O' a' w' f4
  rw [b3] at f1 f2 ⊢
  exact dag_any (ops := l.toArray) (Q := PC E g ⟨N, X, R⟩) hE hY (K := N) (S := S) (es := es) (mf := mf) b5 hst hN fuel' m0 g β2 O2 a' w' (f3.n f5.n) hc2 b4 f1 fun a'' w'' hq => hq
end Go.Ab
namespace Go.Ab
variable [Dr]
theorem dagS_intro {E : Ev} {mu : List Nat} {ops : Array Oper} {S : Nat → St} {m i : Nat} {o : Oper} (ho : ops[i]? = some o) (h : ∀ T, S (m ||| 2 ^ i) = T → wpA E mu ops [o] (S m) fun σ' => Ent σ' T) : dagS E mu ops S (m, i) := by
  unfold dagS
  rw [ho]
  exact h _ rfl
def bitN (m i : Nat) : Bool := m / 2 ^ i % 2 == 1
def tabF (m : Nat) : List (Nat × Nat × AV) → List (Nat × AV)
  | [] => []
  | (i, s, a) :: l => bif bitN m i then (s, a) :: tabF m l else tabF m l
end Go.Ab

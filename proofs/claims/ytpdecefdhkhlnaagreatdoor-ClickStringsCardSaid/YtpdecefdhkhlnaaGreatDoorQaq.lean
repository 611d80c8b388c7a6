/- Parts of the proof, put together by a program. -/
import Derived.Test.YtpdecefdhkhlnaaGreatDoorQad
import Derived.Test.YtpdecefdhkhlnaaGreatDoorQao
import Derived.Test.YtpdecefdhkhlnaaGreatDoorQap
set_option maxRecDepth 100000
set_option maxHeartbeats 4000000
set_option linter.unusedSimpArgs false
set_option linter.unusedVariables false
set_option linter.unusedSectionVars false
namespace Go.Proofs.YtpdecefdhkhlnaaGreatDoor
open Go.Ab Go.RowKit
variable [Dr]
abbrev Y0 : List Int := [0, 0, 9, 0, 0]
theorem med_zero {xs : List Int} (h : MedTo xs xs.length 0 true) (h1 : 1 ≤ xs.length) : med xs = 0 := (medTo_end h1 h).symm
theorem devs_Y0 : devs 0 1 Y0 = [0, 0, 9, 0, 0] := by
  have m0 : med [0, 0] = 0 := med_zero (.inr ⟨rfl, ⟨0, by decide, by decide, rfl⟩, by decide⟩) (by decide)
  have m1 : med [0, 0, 9] = 0 := med_zero (.inr ⟨rfl, ⟨0, by decide, by decide, rfl⟩, by decide⟩) (by decide)
  have m2 : med [0, 9, 0] = 0 := med_zero (.inr ⟨rfl, ⟨0, by decide, by decide, rfl⟩, by decide⟩) (by decide)
  have m3 : med [9, 0, 0] = 0 := med_zero (.inr ⟨rfl, ⟨1, by decide, by decide, rfl⟩, by decide⟩) (by decide)
  show [((0 - med [0, 0]).natAbs : Int), ((0 - med [0, 0, 9]).natAbs : Int), ((9 - med [0, 9, 0]).natAbs : Int), ((0 - med [9, 0, 0]).natAbs : Int), ((0 - med [0, 0]).natAbs : Int)] = _
  rw [m0, m1, m2, m3]
  rfl
theorem clicks_Y0 : clicksR 0 1 5 2 4 50 Y0 true = [⟨2, 2, 2, 9⟩] := by
  unfold clicksR allR
  rw [devs_Y0]
  decide
theorem c_awake : Pure Tryz.prog 22 [] (.v (.bool true)) := by
  have h1 : Pure Tryz.prog 48 [isl Y0] (.tu [iv 486, iv 0]) := c_EnergyOf Y0 (len_lit rfl)
  have h2 : Pure Tryz.prog 30 [.ag (ruleA 0 1 5 2 4 50), isl Y0] (.tu [rsl [⟨2, 2, 2, 9⟩], iv 0]) := by
    have := c_Clicks 0 1 5 2 4 50 Y0 (len_lit rfl)
    rw [clicks_Y0] at this
    exact this
  have h3 := c_SameRuns [⟨2, 2, 2, 9⟩] [⟨2, 2, 2, 9⟩] (len_lit rfl)
  have h4 := c_SameHum 2 2 0 0 [-1, 3] [-1, 3] (len_lit rfl)
  refine p_intro evOk [7] Tryz.func22 rfl Tryz.call22 ?_
  repeat' first
   | refine v_seq ?_ | refine v_block ?_ | refine v_ret ?_ | refine v_skip ?_ | (refine v_exit ?_; repeat' first | refine xB_eq ?_ | refine xB_ne rfl ?_)
   | ((first | refine rgA fun K hK => ?_ | refine rgB rfl fun K hK => ?_ | refine rgC rfl fun K hK => ?_); simp only [go_sem,simprocAttr])
   | (simp (disch := first | omega | rfl | (simp only [lnn]; omega)) only [spl])
   | (refine hK _ ?_; clear hK K)
   | (refine gdB_intro (fun h => ?_) (fun h => ?_) <;> simp only [go_sem,simprocAttr,h] <;> (have h' := h; try simp only [bl] at h'))
   | (refine v_cond rfl (fun h => ?_) (fun h => ?_) <;> first | (exact Bool.noConfusion h) | (have h' := h; try simp only [bl] at h'))
   | (refine r_ret ?_; simp only [resL, resA, Tryz.f22, lk_cons', lk_nil', Nat.reduceBEq]; first | exact ⟨rfl, Sb.nil _, rfl⟩ | refine ⟨rfl, sbt ?_, rfl⟩ | refine ⟨rfl, Sb.of_eq ?_, rfl⟩)
   | (refine And.intro (by first | exact True.intro | omega | rfl | exact Nat.le_of_ble_eq_true rfl | (simp only [lnn]; omega) | exact List.forall_mem_nil _ | (refine List.forall_mem_cons.2 ⟨⟨_, rfl⟩, ?_⟩; repeat' first | exact List.forall_mem_nil _ | refine List.forall_mem_cons.2 ⟨⟨_, rfl⟩, ?_⟩)) ?_)
   | ((first | refine call_pure' (h1) rfl ?_ | refine call_pure' (c_Rules) rfl ?_ | refine call_pure' (h2) rfl ?_ | refine call_pure' (c_Exact0) rfl ?_ | refine call_pure' (c_HumOf0) rfl ?_ | refine call_pure' (h3) rfl ?_ | refine call_pure' (c_SameMends0) rfl ?_ | refine call_pure' (h4) rfl ?_); simp only [go_sem,simprocAttr])
   | fail
  · rfl
  · exact absurd True.intro h'
end Go.Proofs.YtpdecefdhkhlnaaGreatDoor
set_option maxRecDepth 100000
set_option maxHeartbeats 4000000
set_option linter.unusedSimpArgs false
set_option linter.unusedVariables false
set_option linter.unusedSectionVars false
namespace Go.Ab
variable [Dr]
theorem Pure.sb {P : Program} {f : FuncId} {avs : List AV} {r r' : AV} (h : Pure P f avs r) (hs : Sb r r') (hp : r'.plain = true) : Pure P f avs r' :=
  ⟨h.can, fun O w vs hr hO => (h.run O w vs hr hO).mono fun e w' ⟨u, h1, h2, h3⟩ => ⟨u, h1, h2, (hs (fun _ => none) O w' u (.pl _ _ h3)).plain hp⟩⟩
end Go.Ab
namespace Go.Proofs.YtpdecefdhkhlnaaGreatDoor
open Go.Ab Go.RowKit Go.Shelf Go.Proofs
attribute [local instance] drV loV
theorem humZ_sb (e : Int) : Sb (.tu [.ag zHum, iv e]) (humZ e) := Sb.tuL ⟨Sb.agL ⟨Sb.refl _, Sb.refl _, Sb.nil 1, True.intro⟩, Sb.of_eq rfl, True.intro⟩
theorem hqR_sb : ∀ V : List Int, Sb (phR V) (hqR V) ∧ (hqR V).plain = true
  | [] => ⟨humZ_sb 7, rfl⟩
  | [_] => ⟨humZ_sb 7, rfl⟩
  | a :: b :: ts => by
    unfold phR hqR
    dsimp only
    by_cases h : humErr a b ts = 0
    · rw [if_pos h, if_pos h]; exact ⟨Sb.refl _, rfl⟩
    · rw [if_neg h, if_neg h]; exact ⟨humZ_sb _, rfl⟩
theorem hvals_q {P : List (List UInt8)} (h : allHQ 0 P = true) : hvals P P.length = qvals P P.length := by
  unfold hvals qvals
  rw [List.take_length]
  refine List.map_congr_left fun l hl => ?_
  obtain ⟨t, ht⟩ := List.getElem?_of_mem hl
  exact okHQ_val ((allHQ_0 P).1 h t l ht)
theorem c_ParseHum (s : ByteArray) (hs : s.size ≤ 100000) : Pure Tryz.prog 14 [.v (.string s)] (hqX (cutL 32 (bys s))) := by
  cases h : allHQ 0 (cutL 32 (bys s))
  · have hX : hqX (cutL 32 (bys s)) = humZ 7 := by unfold hqX; rw [if_neg (by rw [h]; decide)]
    rw [hX]
    have hex : ∃ q l, (cutL 32 (bys s))[q]? = some l ∧ okH q l = false := by
      apply Classical.byContradiction
      intro hno
      have : allHQ 0 (cutL 32 (bys s)) = true := (allHQ_0 _).2 fun t l hl => by
        rw [← okH_Q]
        cases hk : okH t l
        · exact absurd ⟨t, l, hl, hk⟩ hno
        · rfl
      rw [h] at this; cases this
    obtain ⟨q0, l0, h0, hk0⟩ := hex
    have hmin : ∃ q, (∃ l, (cutL 32 (bys s))[q]? = some l ∧ okH q l = false) ∧ ∀ t, t < q → ¬ ∃ l, (cutL 32 (bys s))[t]? = some l ∧ okH t l = false := by
      have key : ∀ n, (∃ l, (cutL 32 (bys s))[n]? = some l ∧ okH n l = false) → ∃ q, (∃ l, (cutL 32 (bys s))[q]? = some l ∧ okH q l = false) ∧ ∀ t, t < q → ¬ ∃ l, (cutL 32 (bys s))[t]? = some l ∧ okH t l = false := by
        intro n
        induction n using Nat.strongRecOn with
        | _ n ih =>
          intro hn
          by_cases hex : ∃ t, t < n ∧ ∃ l, (cutL 32 (bys s))[t]? = some l ∧ okH t l = false
          · obtain ⟨t, ht, h2⟩ := hex
            exact ih t ht h2
          · exact ⟨n, hn, fun t ht h2 => hex ⟨t, ht, h2⟩⟩
      exact key q0 ⟨l0, h0, hk0⟩
    obtain ⟨q, ⟨l, hl, hk⟩, hlt⟩ := hmin
    refine (c_ParseHumBad s hs q (List.getElem?_eq_some_iff.1 hl).1 (fun t l' ht hl' => ?_) fun l' hl' => ?_).sb (humZ_sb 7) rfl
    · cases hk' : okH t l'
      · exact absurd ⟨l', hl', hk'⟩ (hlt t ht)
      · rfl
    · rw [hl] at hl'; cases hl'; exact hk
  · have hX : hqX (cutL 32 (bys s)) = hqR (qvals (cutL 32 (bys s)) (cutL 32 (bys s)).length) := by unfold hqX; rw [if_pos h]
    rw [hX]
    refine (c_ParseHumOk s hs _ (hvals_q h) (fun v hv => ?_) fun t l hl => by rw [okH_Q]; exact (allHQ_0 _).1 h t l hl).sb (hqR_sb _).1 (hqR_sb _).2
    obtain ⟨l, _, rfl⟩ := List.mem_map.1 hv
    exact vQ_I64 l
theorem hqX_form (P : List (List UInt8)) : ∃ a b ts e, hqX P = .tu [.ag [iv a, iv b, isl ts], iv e] ∧ ts.length ≤ P.length := by
  unfold hqX
  split
  · have hl : (qvals P P.length).length = P.length := by simp [qvals]
    generalize qvals P P.length = V at *
    match V, hl with
    | [], _ => exact ⟨0, 0, [], 7, rfl, Nat.zero_le _⟩
    | [_], _ => exact ⟨0, 0, [], 7, rfl, Nat.zero_le _⟩
    | a :: b :: ts, hl =>
      unfold hqR
      dsimp only
      split
      · exact ⟨a, b, ts, 0, rfl, by simp at hl; omega⟩
      · exact ⟨0, 0, [], _, rfl, by simp⟩
  · exact ⟨0, 0, [], 7, rfl, by simp⟩
theorem prR_form (ok : List UInt8 → Bool) (f : List UInt8 → Int) (W : List (List UInt8)) : ∃ k w t j m p e, prR ok f W = .tu [ruA k w t j m p, iv e] := by
  have hr : ∀ k w t j m p, ∃ k' w' t' j' m' p' e, ruR k w t j m p = .tu [ruA k' w' t' j' m' p', iv e] := fun k w t j m p => by
    unfold ruR
    split
    · exact ⟨_, _, _, _, _, _, _, rfl⟩
    · exact ⟨_, _, _, _, _, _, _, rfl⟩
  match W with
  | [] => exact ⟨_, _, _, _, _, _, _, rfl⟩
  | [_] => exact ⟨_, _, _, _, _, _, _, rfl⟩
  | [_, _] => exact ⟨_, _, _, _, _, _, _, rfl⟩
  | [_, _, _] => exact ⟨_, _, _, _, _, _, _, rfl⟩
  | [_, _, _, _] => exact ⟨_, _, _, _, _, _, _, rfl⟩
  | [w, a, b, c, d] =>
    unfold prR; dsimp only
    split
    · exact hr _ _ _ _ _ _
    · exact ⟨_, _, _, _, _, _, _, rfl⟩
  | [w, a, b, c, d, e] =>
    unfold prR; dsimp only
    split
    · exact hr _ _ _ _ _ _
    · exact ⟨_, _, _, _, _, _, _, rfl⟩
  | _ :: _ :: _ :: _ :: _ :: _ :: _ :: _ => exact ⟨_, _, _, _, _, _, _, rfl⟩
theorem bys_inj {a b : ByteArray} (h : bys a = bys b) : a = b := by
  cases a; cases b
  simp [bys] at h
  rw [h]
theorem bys_app (a b : ByteArray) : bys (a ++ b) = bys a ++ bys b := by simp [bys]
theorem joinTail_snoc (c : List UInt8) (l : List (List UInt8)) (x : List UInt8) : Lib.joinTail c (l ++ [x]) = Lib.joinTail c l ++ (c ++ x) := by
  unfold Lib.joinTail
  simp
theorem take_giX {l : List Int} {i : Nat} (h : i < l.length) : l.take (i + 1) = l.take i ++ [gi l i] := by
  rw [List.take_add_one, List.getElem?_eq_getElem h]
  simp [gi, h]
theorem refJ_word (w : ByteArray) (l : List Int) : ∀ i, i ≤ l.length → bys (refJ false w l i) = bys w ++ Lib.joinTail [32] ((l.take i).map Lib.itoa)
  | 0, _ => by simp [refJ, Lib.joinTail]
  | i + 1, h => by
    have ih := refJ_word w l i (by omega)
    rw [refJ, Bool.not_false, Bool.or_true, cond_true, bys_app, bys_app, ih, take_giX (by omega), List.map_append, List.map_singleton, joinTail_snoc]
    simp [bys, itB]
theorem refJ_none (a : Int) (l : List Int) : ∀ i, i ≤ l.length → bys (refJ true ⟨#[]⟩ (a :: l) (i + 1)) = Lib.itoa a ++ Lib.joinTail [32] ((l.take i).map Lib.itoa)
  | 0, _ => by
    rw [refJ, refJ]
    simp [bys, itB, gi, Lib.joinTail]
  | i + 1, h => by
    have ih := refJ_none a l i (by omega)
    have hg : gi (a :: l) ((i + 1 : Nat) : Int) = gi l (i : Nat) := by simp [gi, List.getD_eq_getElem?_getD]
    have hd : decide (0 < i + 1) = true := decide_eq_true (by omega)
    rw [refJ, hd, Bool.true_or, cond_true, bys_app, bys_app, ih, hg, take_giX (by omega), List.map_append, List.map_singleton, joinTail_snoc]
    simp [bys, itB]
theorem ruS_ref (k w t j m p : Int) : ruS k w t j m p = if k = 0 then refJ false ⟨#[109, 101, 100, 105, 97, 110]⟩ [w, t, j, m, p] 5 else if k = 1 then refJ false ⟨#[99, 117, 114, 118, 101]⟩ [t, j, m, p] 4 else ⟨#[]⟩ := by
  have hb : ∀ X : List ByteArray, bys (join7 X ⟨#[32]⟩) = Lib.join (X.map (·.data.toList)) [32] := fun X => by simp [join7]
  by_cases h0 : k = 0
  · subst h0
    rw [if_pos rfl]
    refine bys_inj ?_
    rw [refJ_word _ _ 5 (by simp)]
    unfold ruS
    rw [if_pos (.inl rfl), hb]
    unfold ruW
    rw [if_pos rfl]
    simp only [List.map_cons, List.map_nil, bysI]
    rw [Lib.join_cons]
    rfl
  rw [if_neg h0]
  by_cases h1 : k = 1
  · subst h1
    rw [if_pos rfl]
    refine bys_inj ?_
    rw [refJ_word _ _ 4 (by simp)]
    unfold ruS
    rw [if_pos (.inr rfl), hb]
    unfold ruW
    rw [if_neg (by decide)]
    simp only [List.map_cons, List.map_nil, bysI]
    rw [Lib.join_cons]
    rfl
  rw [if_neg h1]
  unfold ruS
  rw [if_neg (by omega)]
theorem hum_ref (p f : Int) (ts : List Int) : join7 (hwTo p f ts ts.length) ⟨#[32]⟩ = refJ true ⟨#[]⟩ (p :: f :: ts) (ts.length + 2) := by
  refine bys_inj ?_
  rw [refJ_none p (f :: ts) (ts.length + 1) (by simp)]
  have e2 : (hwTo p f ts ts.length).map (·.data.toList) = Lib.itoa p :: (f :: ts).map Lib.itoa := by
    unfold hwTo
    rw [List.take_length]
    simp [bysI]
  have e3 : bys (join7 (hwTo p f ts ts.length) ⟨#[32]⟩) = Lib.join ((hwTo p f ts ts.length).map (·.data.toList)) [32] := by simp [join7]
  rw [e3, e2, Lib.join_cons, show (f :: ts).take (ts.length + 1) = f :: ts from List.take_of_length_le (by simp)]
end Go.Proofs.YtpdecefdhkhlnaaGreatDoor
set_option maxRecDepth 100000
set_option maxHeartbeats 4000000
set_option linter.unusedSimpArgs false
set_option linter.unusedVariables false
set_option linter.unusedSectionVars false
namespace Go.Proofs.YtpdecefdhkhlnaaGreatDoor
open Go.Ab Go.RowKit Go.Shelf Go.Proofs
attribute [local instance] drV loV
theorem ruS_size (k w t j m p : Int) (hw : I64 w) (ht : I64 t) (hj : I64 j) (hm : I64 m) (hp : I64 p) : (ruS k w t j m p).size ≤ 200 := by
  unfold ruS
  split
  · exact ru_join k w t j m p hw ht hj hm hp
  · exact Nat.zero_le _
theorem hum_join (p f : Int) (ts : List Int) (hb : ∀ v ∈ p :: f :: ts, I64 v) : (Lib.join ((hwTo p f ts ts.length).map (·.data.toList)) [32]).length ≤ 100 + 22 * (ts.length + 2) := by
  have h := refJ_size true ⟨#[]⟩ (p :: f :: ts) (Nat.zero_le _) hb (ts.length + 2) (by simp)
  rw [← hum_ref] at h
  exact h
theorem s_ClickStrings (k w t j m p pe ph : Int) (ts : List Int) (s : ByteArray) (hw : I64 w) (ht : I64 t) (hj : I64 j) (hm : I64 m) (hp : I64 p) (hpe : I64 pe) (hph : I64 ph) (hts : I64L ts) :
    Pure Tryz.prog 4 [ruA k w t j m p, .ag [iv pe, iv ph, isl ts], .v (.string s)] (.v (.bool true)) := by
  cases h70 : decide ((70 : Int) < ts.length)
  rotate_left
  · refine p_intro evOk [9, 11, 13, 15, 17, 19] Tryz.func4 rfl Tryz.call4 ?_
    repeat' first
     | refine v_seq ?_ | refine v_block ?_ | refine v_ret ?_ | refine v_skip ?_ | (refine v_exit ?_; repeat' first | refine xB_eq ?_ | refine xB_ne rfl ?_)
     | ((first | refine rgA fun K hK => ?_ | refine rgB rfl fun K hK => ?_ | refine rgC rfl fun K hK => ?_); simp only [go_sem,simprocAttr,h70])
     | (simp (disch := first | omega | rfl | (simp only [lnn]; omega)) only [spl])
     | (refine hK _ ?_; clear hK K)
     | (refine gdB_intro (fun h => ?_) (fun h => ?_) <;> simp only [go_sem,simprocAttr,h,h70] <;> (have h' := h; try simp only [bl] at h'))
     | (refine v_cond rfl (fun h => ?_) (fun h => ?_) <;> first | (exact Bool.noConfusion h) | (have h' := h; try simp only [bl] at h'))
     | (refine r_ret ?_; simp only [resL, resA, Tryz.f4, lk_cons', lk_nil', Nat.reduceBEq]; first | exact ⟨rfl, Sb.nil _, rfl⟩ | refine ⟨rfl, sbt ?_, rfl⟩ | refine ⟨rfl, Sb.of_eq ?_, rfl⟩)
     | (refine And.intro (by first | exact True.intro | omega | rfl | exact Nat.le_of_ble_eq_true rfl | (simp only [lnn]; omega) | exact List.forall_mem_nil _ | (refine List.forall_mem_cons.2 ⟨⟨_, rfl⟩, ?_⟩; repeat' first | exact List.forall_mem_nil _ | refine List.forall_mem_cons.2 ⟨⟨_, rfl⟩, ?_⟩)) ?_)
     | ((first | refine call_pure' (c_awake) rfl ?_); simp only [go_sem,simprocAttr,h70])
     | fail
    all_goals rfl
  cases h200 : decide ((200 : Int) < s.size)
  rotate_left
  · refine p_intro evOk [9, 11, 13, 15, 17, 19] Tryz.func4 rfl Tryz.call4 ?_
    repeat' first
     | refine v_seq ?_ | refine v_block ?_ | refine v_ret ?_ | refine v_skip ?_ | (refine v_exit ?_; repeat' first | refine xB_eq ?_ | refine xB_ne rfl ?_)
     | ((first | refine rgA fun K hK => ?_ | refine rgB rfl fun K hK => ?_ | refine rgC rfl fun K hK => ?_); simp only [go_sem,simprocAttr,h70,h200])
     | (simp (disch := first | omega | rfl | (simp only [lnn]; omega)) only [spl])
     | (refine hK _ ?_; clear hK K)
     | (refine gdB_intro (fun h => ?_) (fun h => ?_) <;> simp only [go_sem,simprocAttr,h,h70,h200] <;> (have h' := h; try simp only [bl] at h'))
     | (refine v_cond rfl (fun h => ?_) (fun h => ?_) <;> first | (exact Bool.noConfusion h) | (have h' := h; try simp only [bl] at h'))
     | (refine r_ret ?_; simp only [resL, resA, Tryz.f4, lk_cons', lk_nil', Nat.reduceBEq]; first | exact ⟨rfl, Sb.nil _, rfl⟩ | refine ⟨rfl, sbt ?_, rfl⟩ | refine ⟨rfl, Sb.of_eq ?_, rfl⟩)
     | (refine And.intro (by first | exact True.intro | omega | rfl | exact Nat.le_of_ble_eq_true rfl | (simp only [lnn]; omega) | exact List.forall_mem_nil _ | (refine List.forall_mem_cons.2 ⟨⟨_, rfl⟩, ?_⟩; repeat' first | exact List.forall_mem_nil _ | refine List.forall_mem_cons.2 ⟨⟨_, rfl⟩, ?_⟩)) ?_)
     | ((first | refine call_pure' (c_awake) rfl ?_); simp only [go_sem,simprocAttr,h70,h200])
     | fail
    all_goals rfl
  have hl : ts.length ≤ 70 := by have := of_decide_eq_false h70; omega
  have hs : s.size ≤ 200 := by have := of_decide_eq_false h200; omega
  have hL : Len ts.length := by unfold Len; omega
  have hb : ∀ v ∈ pe :: ph :: ts, I64 v := fun v hv => by
    simp only [List.mem_cons] at hv
    rcases hv with rfl | rfl | hv
    · exact hpe
    · exact hph
    · exact hts v hv
  have hJ := hum_join pe ph ts hb
  have kF := c_FormatRules k w t j m p hw ht hj hm hp
  have kC := c_CopyHum pe ph ts hL
  have kH := c_FormatHum pe ph ts hpe hph (by omega) hts (by omega)
  have kR := c_ParseRules s (by omega)
  have kR2 := c_refParseRules s (by omega)
  rw [prR_same] at kR
  have kP := c_ParseHum s (by omega)
  have kP2 := c_refParseHum s (by omega)
  have kf := c_refFormatRules k w t j m p hw ht hj hm hp
  rw [← ruS_ref] at kf
  have kh := c_refFormatHum pe ph ts (by omega) hb
  rw [← hum_ref] at kh
  obtain ⟨k1, w1, t1, j1, m1, p1, e1, hE1⟩ := prR_form okQ vQ (cutL 32 (bys s))
  obtain ⟨a2, b2, ts2, e2, hE2, hl2⟩ := hqX_form (cutL 32 (bys s))
  have hcl := cutL_length 32 (bys s)
  have hsl : (bys s).length = s.size := rfl
  rw [hE1] at kR kR2
  rw [hE2] at kP kP2
  have kS := c_SameHum a2 a2 b2 b2 ts2 ts2 (by unfold Len; omega)
  have kE := c_RulesErr k w t j m p
  have kHE := c_HumErr pe ph ts hL hpe
  have kB : rulesErr k w t j m p = 0 → Pure Tryz.prog 24 [.v (.string (ruS k w t j m p))] (.tu [ruA k w t j m p, iv 0]) := fun h => by
    have := c_ParseRules (ruS k w t j m p) (by have := ruS_size k w t j m p hw ht hj hm hp; omega)
    rwa [ru_again h] at this
  have kHB := c_ParseBack pe ph ts
  have kS2 := c_SameHum pe pe ph ph ts ts hL
  have d1 : decide (a2 = a2 ∧ b2 = b2 ∧ ts2 = ts2) = true := decide_eq_true ⟨rfl, rfl, rfl⟩
  have d2 : decide (pe = pe ∧ ph = ph ∧ ts = ts) = true := decide_eq_true ⟨rfl, rfl, rfl⟩
  rw [d1] at kS
  rw [d2] at kS2
  have n1 : ∀ b : ByteArray, (b.toList == b.toList) = true := fun b => by simp
  generalize ruS k w t j m p = S1 at *
  generalize join7 (hwTo pe ph ts ts.length) ⟨#[32]⟩ = S2 at *
  clear hJ hE1 hE2 hcl
  cases hr : (rulesErr k w t j m p == 0) <;> cases hh : (humErr pe ph ts != 0)
  · have kHB := kHB (by simpa using hh)
    refine p_intro evOk [9, 11, 13, 15, 17, 19] Tryz.func4 rfl Tryz.call4 ?_
    repeat' first
     | refine v_seq ?_ | refine v_block ?_ | refine v_ret ?_ | refine v_skip ?_ | (refine v_exit ?_; repeat' first | refine xB_eq ?_ | refine xB_ne rfl ?_)
     | ((first | refine rgA fun K hK => ?_ | refine rgB rfl fun K hK => ?_ | refine rgC rfl fun K hK => ?_); simp only [go_sem,simprocAttr,h70,h200,hr,hh,n1,hset_at,hset_hset,bne_self_eq_false])
     | (simp (disch := first | omega | rfl | (simp only [lnn]; omega)) only [spl])
     | (refine hK _ ?_; clear hK K)
     | (refine gdB_intro (fun h => ?_) (fun h => ?_) <;> simp only [go_sem,simprocAttr,h,h70,h200,hr,hh,n1,hset_at,hset_hset,bne_self_eq_false] <;> (have h' := h; try simp only [bl] at h'))
     | (refine v_cond rfl (fun h => ?_) (fun h => ?_) <;> first | (exact Bool.noConfusion h) | (have h' := h; try simp only [bl] at h'))
     | (refine r_ret ?_; simp only [resL, resA, Tryz.f4, lk_cons', lk_nil', Nat.reduceBEq]; first | exact ⟨rfl, Sb.nil _, rfl⟩ | refine ⟨rfl, sbt ?_, rfl⟩ | refine ⟨rfl, Sb.of_eq ?_, rfl⟩)
     | (refine And.intro (by first | exact True.intro | omega | rfl | exact Nat.le_of_ble_eq_true rfl | (simp only [lnn]; omega) | exact List.forall_mem_nil _ | (refine List.forall_mem_cons.2 ⟨⟨_, rfl⟩, ?_⟩; repeat' first | exact List.forall_mem_nil _ | refine List.forall_mem_cons.2 ⟨⟨_, rfl⟩, ?_⟩)) ?_)
     | ((first | refine call_pure' (c_awake) rfl ?_ | refine call_pure' (kF) rfl ?_ | refine call_pure' (kC) rfl ?_ | refine call_pure' (kH) rfl ?_ | refine call_pure' (kR) rfl ?_ | refine call_pure' (kR2) rfl ?_ | refine call_pure' (kP) rfl ?_ | refine call_pure' (kP2) rfl ?_ | refine call_pure' (kf) rfl ?_ | refine call_pure' (kh) rfl ?_ | refine call_pure' (kS) rfl ?_ | refine call_pure' (kE) rfl ?_ | refine call_pure' (kHE) rfl ?_ | refine call_pure' (kHB) rfl ?_ | refine call_pure' (kS2) rfl ?_); simp only [go_sem,simprocAttr,h70,h200,hr,hh,n1,hset_at,hset_hset,bne_self_eq_false])
     | fail
    all_goals first | rfl | exact absurd trivial ‹¬True›
  · refine p_intro evOk [9, 11, 13, 15, 17, 19] Tryz.func4 rfl Tryz.call4 ?_
    repeat' first
     | refine v_seq ?_ | refine v_block ?_ | refine v_ret ?_ | refine v_skip ?_ | (refine v_exit ?_; repeat' first | refine xB_eq ?_ | refine xB_ne rfl ?_)
     | ((first | refine rgA fun K hK => ?_ | refine rgB rfl fun K hK => ?_ | refine rgC rfl fun K hK => ?_); simp only [go_sem,simprocAttr,h70,h200,hr,hh,n1,hset_at,hset_hset,bne_self_eq_false])
     | (simp (disch := first | omega | rfl | (simp only [lnn]; omega)) only [spl])
     | (refine hK _ ?_; clear hK K)
     | (refine gdB_intro (fun h => ?_) (fun h => ?_) <;> simp only [go_sem,simprocAttr,h,h70,h200,hr,hh,n1,hset_at,hset_hset,bne_self_eq_false] <;> (have h' := h; try simp only [bl] at h'))
     | (refine v_cond rfl (fun h => ?_) (fun h => ?_) <;> first | (exact Bool.noConfusion h) | (have h' := h; try simp only [bl] at h'))
     | (refine r_ret ?_; simp only [resL, resA, Tryz.f4, lk_cons', lk_nil', Nat.reduceBEq]; first | exact ⟨rfl, Sb.nil _, rfl⟩ | refine ⟨rfl, sbt ?_, rfl⟩ | refine ⟨rfl, Sb.of_eq ?_, rfl⟩)
     | (refine And.intro (by first | exact True.intro | omega | rfl | exact Nat.le_of_ble_eq_true rfl | (simp only [lnn]; omega) | exact List.forall_mem_nil _ | (refine List.forall_mem_cons.2 ⟨⟨_, rfl⟩, ?_⟩; repeat' first | exact List.forall_mem_nil _ | refine List.forall_mem_cons.2 ⟨⟨_, rfl⟩, ?_⟩)) ?_)
     | ((first | refine call_pure' (c_awake) rfl ?_ | refine call_pure' (kF) rfl ?_ | refine call_pure' (kC) rfl ?_ | refine call_pure' (kH) rfl ?_ | refine call_pure' (kR) rfl ?_ | refine call_pure' (kR2) rfl ?_ | refine call_pure' (kP) rfl ?_ | refine call_pure' (kP2) rfl ?_ | refine call_pure' (kf) rfl ?_ | refine call_pure' (kh) rfl ?_ | refine call_pure' (kS) rfl ?_ | refine call_pure' (kE) rfl ?_ | refine call_pure' (kHE) rfl ?_); simp only [go_sem,simprocAttr,h70,h200,hr,hh,n1,hset_at,hset_hset,bne_self_eq_false])
     | fail
    all_goals first | rfl | exact absurd trivial ‹¬True›
  · have kHB := kHB (by simpa using hh)
    have kB := kB (by simpa using hr)
    refine p_intro evOk [9, 11, 13, 15, 17, 19] Tryz.func4 rfl Tryz.call4 ?_
    repeat' first
     | refine v_seq ?_ | refine v_block ?_ | refine v_ret ?_ | refine v_skip ?_ | (refine v_exit ?_; repeat' first | refine xB_eq ?_ | refine xB_ne rfl ?_)
     | ((first | refine rgA fun K hK => ?_ | refine rgB rfl fun K hK => ?_ | refine rgC rfl fun K hK => ?_); simp only [go_sem,simprocAttr,h70,h200,hr,hh,n1,hset_at,hset_hset,bne_self_eq_false])
     | (simp (disch := first | omega | rfl | (simp only [lnn]; omega)) only [spl])
     | (refine hK _ ?_; clear hK K)
     | (refine gdB_intro (fun h => ?_) (fun h => ?_) <;> simp only [go_sem,simprocAttr,h,h70,h200,hr,hh,n1,hset_at,hset_hset,bne_self_eq_false] <;> (have h' := h; try simp only [bl] at h'))
     | (refine v_cond rfl (fun h => ?_) (fun h => ?_) <;> first | (exact Bool.noConfusion h) | (have h' := h; try simp only [bl] at h'))
     | (refine r_ret ?_; simp only [resL, resA, Tryz.f4, lk_cons', lk_nil', Nat.reduceBEq]; first | exact ⟨rfl, Sb.nil _, rfl⟩ | refine ⟨rfl, sbt ?_, rfl⟩ | refine ⟨rfl, Sb.of_eq ?_, rfl⟩)
     | (refine And.intro (by first | exact True.intro | omega | rfl | exact Nat.le_of_ble_eq_true rfl | (simp only [lnn]; omega) | exact List.forall_mem_nil _ | (refine List.forall_mem_cons.2 ⟨⟨_, rfl⟩, ?_⟩; repeat' first | exact List.forall_mem_nil _ | refine List.forall_mem_cons.2 ⟨⟨_, rfl⟩, ?_⟩)) ?_)
     | ((first | refine call_pure' (c_awake) rfl ?_ | refine call_pure' (kF) rfl ?_ | refine call_pure' (kC) rfl ?_ | refine call_pure' (kH) rfl ?_ | refine call_pure' (kR) rfl ?_ | refine call_pure' (kR2) rfl ?_ | refine call_pure' (kP) rfl ?_ | refine call_pure' (kP2) rfl ?_ | refine call_pure' (kf) rfl ?_ | refine call_pure' (kh) rfl ?_ | refine call_pure' (kS) rfl ?_ | refine call_pure' (kE) rfl ?_ | refine call_pure' (kB) rfl ?_ | refine call_pure' (kHE) rfl ?_ | refine call_pure' (kHB) rfl ?_ | refine call_pure' (kS2) rfl ?_); simp only [go_sem,simprocAttr,h70,h200,hr,hh,n1,hset_at,hset_hset,bne_self_eq_false])
     | fail
    all_goals first | rfl | exact absurd trivial ‹¬True›
  · have kB := kB (by simpa using hr)
    refine p_intro evOk [9, 11, 13, 15, 17, 19] Tryz.func4 rfl Tryz.call4 ?_
    repeat' first
     | refine v_seq ?_ | refine v_block ?_ | refine v_ret ?_ | refine v_skip ?_ | (refine v_exit ?_; repeat' first | refine xB_eq ?_ | refine xB_ne rfl ?_)
     | ((first | refine rgA fun K hK => ?_ | refine rgB rfl fun K hK => ?_ | refine rgC rfl fun K hK => ?_); simp only [go_sem,simprocAttr,h70,h200,hr,hh,n1,hset_at,hset_hset,bne_self_eq_false])
     | (simp (disch := first | omega | rfl | (simp only [lnn]; omega)) only [spl])
     | (refine hK _ ?_; clear hK K)
     | (refine gdB_intro (fun h => ?_) (fun h => ?_) <;> simp only [go_sem,simprocAttr,h,h70,h200,hr,hh,n1,hset_at,hset_hset,bne_self_eq_false] <;> (have h' := h; try simp only [bl] at h'))
     | (refine v_cond rfl (fun h => ?_) (fun h => ?_) <;> first | (exact Bool.noConfusion h) | (have h' := h; try simp only [bl] at h'))
     | (refine r_ret ?_; simp only [resL, resA, Tryz.f4, lk_cons', lk_nil', Nat.reduceBEq]; first | exact ⟨rfl, Sb.nil _, rfl⟩ | refine ⟨rfl, sbt ?_, rfl⟩ | refine ⟨rfl, Sb.of_eq ?_, rfl⟩)
     | (refine And.intro (by first | exact True.intro | omega | rfl | exact Nat.le_of_ble_eq_true rfl | (simp only [lnn]; omega) | exact List.forall_mem_nil _ | (refine List.forall_mem_cons.2 ⟨⟨_, rfl⟩, ?_⟩; repeat' first | exact List.forall_mem_nil _ | refine List.forall_mem_cons.2 ⟨⟨_, rfl⟩, ?_⟩)) ?_)
     | ((first | refine call_pure' (c_awake) rfl ?_ | refine call_pure' (kF) rfl ?_ | refine call_pure' (kC) rfl ?_ | refine call_pure' (kH) rfl ?_ | refine call_pure' (kR) rfl ?_ | refine call_pure' (kR2) rfl ?_ | refine call_pure' (kP) rfl ?_ | refine call_pure' (kP2) rfl ?_ | refine call_pure' (kf) rfl ?_ | refine call_pure' (kh) rfl ?_ | refine call_pure' (kS) rfl ?_ | refine call_pure' (kE) rfl ?_ | refine call_pure' (kB) rfl ?_ | refine call_pure' (kHE) rfl ?_); simp only [go_sem,simprocAttr,h70,h200,hr,hh,n1,hset_at,hset_hset,bne_self_eq_false])
     | fail
    all_goals first | rfl | exact absurd trivial ‹¬True›
end Go.Proofs.YtpdecefdhkhlnaaGreatDoor

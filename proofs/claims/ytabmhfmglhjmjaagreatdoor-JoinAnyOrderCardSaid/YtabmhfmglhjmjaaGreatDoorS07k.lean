import Derived.Test.YtabmhfmglhjmjaaGreatDoorS07d
import Derived.Test.YtabmhfmglhjmjaaGreatDoorS07e
set_option linter.unusedVariables false
set_option linter.unusedSimpArgs false
set_option linter.unusedSectionVars false
namespace Go.Proofs.YtabmhfmglhjmjaaGreatDoor
open Go.Ab
attribute [local instance] drS
theorem sorted_of_perm {xs ys : List Int} (h : xs.Perm ys) : sorted xs = sorted ys :=
  List.Perm.eq_of_pairwise (le := fun a b => a ≤ b) (fun a b _ _ h1 h2 => by omega) (sorted_pw xs) (sorted_pw ys) ((sorted_perm xs).trans (h.trans (sorted_perm ys).symm))
theorem mid_perm {xs ys : List Int} (h : xs.Perm ys) : mid xs = mid ys := by
  unfold mid; rw [sorted_of_perm h, h.length_eq]
section
variable {ts us : List Tf}
theorem col_perm (h : us.Perm ts) (p : Int) : (col us p).Perm (col ts p) := by
  rw [col_eq, col_eq]; exact (h.filter _).map _
theorem medAt_perm (h : us.Perm ts) (p : Int) : medAt us p = medAt ts p := mid_perm (col_perm h p)
theorem meds_perm (h : us.Perm ts) (n : Nat) : meds us n = meds ts n := by
  unfold meds; exact List.map_congr_left fun p _ => medAt_perm h _
theorem hole_perm (h : us.Perm ts) (p : Nat) : hole us p = hole ts p := by unfold hole; rw [(col_perm h _).length_eq]
theorem holes_perm (h : us.Perm ts) (n : Nat) : holes us n = holes ts n := by
  unfold holes; exact congrArg (List.any (List.range n)) (funext fun p => hole_perm h p)
theorem gt7_mem {i : Nat} (hi : i < us.length) : gt7 us i ∈ us := by rw [gt7_eq hi]; exact List.getElem_mem hi
theorem mem_gt7 {t : Tf} (h : t ∈ us) : ∃ i, i < us.length ∧ gt7 us i = t := by
  obtain ⟨i, hi, he⟩ := List.mem_iff_getElem.1 h
  exact ⟨i, hi, by rw [gt7_eq hi, he]⟩
theorem perm_at (h : us.Perm ts) {i : Nat} (hi : i < us.length) : ∃ j, j < ts.length ∧ gt7 ts j = gt7 us i := mem_gt7 (h.mem_iff.1 (gt7_mem hi))
theorem TfOk.perm (h : us.Perm ts) (hT : TfOk ts) : TfOk us := by
  have hu := nmU_perm h hT.nmU
  unfold NmU at hu
  rw [List.pairwise_iff_getElem] at hu
  refine ⟨?_, ?_, fun i hi => ?_, fun i j hj hi => ?_, fun i hi => ?_, fun i hi => ?_, fun i hi => ?_⟩
  · rw [h.length_eq]; exact hT.n1
  · rw [h.length_eq]; exact hT.n6
  · obtain ⟨j, hj, e⟩ := perm_at h hi
    rw [← e]; exact hT.name j hj
  · have hj' : j < us.length := by omega
    rw [gt7_eq hi, gt7_eq hj']
    exact hu j i hj' hi hj
  · obtain ⟨j, hj, e⟩ := perm_at h hi
    rw [← e]; exact hT.lag j hj
  · obtain ⟨j, hj, e⟩ := perm_at h hi
    rw [← e]; exact hT.len j hj
  · obtain ⟨j, hj, e⟩ := perm_at h hi
    rw [← e]; exact hT.smp j hj
theorem dvn_perm (h : us.Perm ts) {i j : Nat} (e : gt7 us i = gt7 ts j) (g k : Nat) : dvn us g k i = dvn ts g k j := by
  unfold dvn cov dvTo
  rw [e]
  simp only [medAt_perm h]
theorem gap7_iff (ts : List Tf) (g k : Nat) : gap7 ts g k = true ↔ ∀ i, i < ts.length → dvn ts g k i = -1 := by
  unfold gap7 devRow
  simp
theorem gap7_perm (h : us.Perm ts) (g k : Nat) : gap7 us g k = gap7 ts g k := by
  rw [Bool.eq_iff_iff, gap7_iff, gap7_iff]
  constructor
  · intro hh i hi
    obtain ⟨j, hj, e⟩ := perm_at h.symm hi
    rw [← dvn_perm h e]; exact hh j hj
  · intro hh i hi
    obtain ⟨j, hj, e⟩ := perm_at h hi
    rw [dvn_perm h e.symm]; exact hh j hj
theorem TkOk.perm {n g c : Int} {K G : Nat} (h : us.Perm ts) (hT : TkOk ts n g c K G) : TkOk us n g c K G := ⟨hT.ok.perm h, hT.nb, hT.gG, hT.G1, hT.cb, hT.K1, hT.K20, hT.KG⟩
theorem byN_of_perm (h : us.Perm ts) (hT : TfOk ts) : byN us = byN ts :=
  byN_eq hT.nmU ((byN_perm us).trans h) (byN_sorted (nmU_perm h hT.nmU))
theorem dmgs_perm (h : us.Perm ts) (hT : TfOk ts) (limit : Int) (n : Nat) : dmgs us limit n = dmgs ts limit n := by
  unfold dmgs; rw [byN_of_perm h hT, meds_perm h]
theorem signalErr_of {xs : List Int} (h : areSamples xs = true) (hl : xs.length ≤ 200) : signalErr xs = 0 := by
  unfold signalErr; rw [decide_eq_false (by omega), h]; rfl
theorem ckT_of (h : TfOk ts) : ckT ts = (0, 0) := by
  have h1 := h.n1
  have h6 := h.n6
  unfold ckT
  rw [show ((ts.length : Int) == 0) = false from beq_false_of_ne (by omega), show decide (6 < (ts.length : Int)) = false from decide_eq_false (by omega), cond_false, cond_false]
  refine fb7_zero _ fun i hi => firstE_all fun e he => ?_
  have hix : idxP (fun j => nmEq (gt7 ts j).nm (gt7 ts i).nm) i = -1 := idxP_none fun j hj => nmEq_false.2 (h.uniq i j hj hi)
  rw [h.name i hi, hix, within_iff.2 (h.lag i hi), signalErr_of (h.smp i hi) (h.len i hi)] at he
  simp [unlessE] at he
  exact he
theorem tkE_of {n g c : Int} {K G : Nat} (hT : TkOk ts n g c K G) (hg : ∀ k, k < K → gap7 ts G k = false) : tkE ts n g c = 0 := by
  obtain ⟨M, hM⟩ : ∃ M : Nat, n = M := ⟨n.toNat, by have := hT.nb; omega⟩
  have hgG := hT.gG
  have hKG := hT.KG
  have hG1 := hT.G1
  have hK1 := hT.K1
  have hK20 := hT.K20
  have hnb := hT.nb
  have hcb := hT.cb
  subst hgG hM
  have hMK : M = K * G := by rw [← Int.natCast_mul] at hKG; omega
  have hGM : G ≤ M := by rw [hMK]; exact Nat.le_mul_of_pos_left G (by omega)
  have h1 : tkE1 ts (M : Int) (G : Int) c = 0 := by
    unfold tkE1 lengthE
    rw [ckT_of hT.ok, within_iff.2 hnb, within_iff.2 (show (1 : Int) ≤ G ∧ (G : Int) ≤ M by omega), within_iff.2 hcb]; rfl
  have hdiv : ((M : Int)).tdiv (G : Int) = (K : Nat) := by rw [← Int.ofNat_tdiv, hMK, Nat.mul_div_cancel _ (by omega)]
  have hmod : ((M : Int)).tmod (G : Int) = 0 := by rw [← Int.ofNat_tmod, hMK, Nat.mul_mod_left]; rfl
  have h2 : tkE2 (M : Int) (G : Int) = 0 := by
    unfold tkE2
    rw [hdiv, hmod, decide_eq_true (show ((K : Nat) : Int) ≤ 20 by omega)]; rfl
  unfold tkE
  rw [h1, h2, Int.toNat_natCast, Int.toNat_natCast, hMK, Nat.mul_div_cancel _ (by omega), gaps7_false.2 hg]; rfl
theorem medE_of {n : Int} (hT : TfOk ts) (hn : 1 ≤ n ∧ n ≤ 200) (hh : holes ts n.toNat = false) : medE ts n = 0 := by
  unfold medE lengthE
  rw [ckT_of hT, within_iff.2 hn, hh]; rfl
end
structure Bij (T : Nat) (σ : Nat → Nat) : Prop where
  lt : ∀ i, i < T → σ i < T
  inj : ∀ i j, i < T → j < T → σ i = σ j → i = j
  surj : ∀ j, j < T → ∃ i, i < T ∧ σ i = j
theorem chg_bij {T : Nat} {σ : Nat → Nat} (h : Bij T σ) (c : Int) {i j : Nat} (hi : i < T) (hj : j < T) : chg c (σ i) (σ j) = chg c i j := by
  unfold chg
  congr 1
  rw [Bool.eq_iff_iff]
  simp only [beq_iff_eq]
  exact ⟨h.inj i j hi hj, fun e => by rw [e]⟩
theorem bestN_bij {T : Nat} {σ : Nat → Nat} (h : Bij T σ) {ok ok' : Nat → Bool} {f f' : Nat → Int} (hnn : ∀ i, i < T → ok i = true → 0 ≤ f i) (ho : ∀ i, i < T → ok' i = ok (σ i)) (hf : ∀ i, i < T → ok' i = true → f' i = f (σ i)) : bestN ok' f' T = bestN ok f T := by
  have hnn' : ∀ i, i < T → ok' i = true → 0 ≤ f' i := fun i hi hk => by
    rw [hf i hi hk]; exact hnn _ (h.lt i hi) (by rw [← ho i hi]; exact hk)
  rcases bestN_ok T hnn with ⟨a1, a2⟩ | ⟨i, a1, a2, a3, a4⟩
  · rcases bestN_ok T hnn' with ⟨b1, _⟩ | ⟨i', b1, b2, _, _⟩
    · rw [a1, b1]
    · rw [ho i' b1, a2 _ (h.lt i' b1)] at b2; cases b2
  · obtain ⟨i0, hi0, rfl⟩ := h.surj i a1
    rcases bestN_ok T hnn' with ⟨_, b2⟩ | ⟨i', b1, b2, b3, b4⟩
    · have := b2 i0 hi0
      rw [ho i0 hi0, a2] at this; cases this
    · have c1 := b4 i0 hi0 (by rw [ho i0 hi0]; exact a2)
      have c2 := a4 (σ i') (h.lt i' b1) (by rw [← ho i' b1]; exact b2)
      rw [hf i' b1 b2, hf i0 hi0 (by rw [ho i0 hi0]; exact a2)] at c1
      rw [a3, b3, hf i' b1 b2]
      omega
section
variable {dv dv' : Nat → Nat → Int} {c : Int} {K T : Nat} {nm nm' : Nat → ByteArray} {B B' : Int} {σ : Nat → Nat}
theorem rst_bij (h : Dp dv c K T nm B) (hσ : Bij T σ) (hd : ∀ k i, i < T → dv' k i = dv k (σ i)) : ∀ m k : Nat, K - 1 - k = m → k < K → ∀ i, i < T → rst dv' c K T k i = rst dv c K T k (σ i)
  | 0, k, hm, hk, i, hi => by
    obtain rfl : k = K - 1 := by omega
    rw [rst_last h.K1, rst_last h.K1, hd _ i hi]
  | m + 1, k, hm, hk, i, hi => by
    have ih := rst_bij h hσ hd m (k + 1) (by omega) (by omega)
    rw [rst_step (by omega), rst_step (by omega), hd k i hi]
    rw [bestN_bij hσ (ok := okR dv c K T (k + 1)) (f := fun j => chg c (σ i) j + rst dv c K T (k + 1) j)]
    · intro j hj hk2
      have h1 := rst_nonneg h (k := k + 1) (by omega) ((okR_iff h (by omega) j).1 hk2)
      have h2 := (chg_bound h.c0 (σ i) j).1
      omega
    · intro j hj
      unfold okR
      rw [ih j hj]
    · intro j hj _
      rw [ih j hj, chg_bij hσ c hi hj]
theorem ch7_bij (h : Dp dv c K T nm B) (h' : Dp dv' c K T nm' B') (hσ : Bij T σ) (hd : ∀ k i, i < T → dv' k i = dv k (σ i)) (hn : ∀ i, i < T → nm' i = nm (σ i)) : ∀ k, k < K → σ (ch7 dv' c K T nm' k) = ch7 dv c K T nm k ∧ ∀ j, j < T → val7 dv' c K T nm' k j = val7 dv c K T nm k (σ j) := by
  have key : ∀ k, k < K → (∀ j, j < T → val7 dv' c K T nm' k j = val7 dv c K T nm k (σ j)) → σ (ch7 dv' c K T nm' k) = ch7 dv c K T nm k := fun k hk hv => by
    obtain ⟨a1, a2, a3⟩ := ch7_ok h' hk
    refine (ch7_unique h hk (hσ.lt _ a1) (by rw [← hd k _ a1]; exact a2) fun j hj hdj => ?_).symm
    obtain ⟨j', hj', rfl⟩ := hσ.surj j hj
    rcases a3 j' hj' (by rw [hd k j' hj']; exact hdj) with b | ⟨b, b2⟩
    · left; rw [← hv _ a1, ← hv _ hj']; exact b
    · right
      rw [← hv _ a1, ← hv _ hj']
      refine ⟨b, ?_⟩
      rcases b2 with rfl | b2
      · exact nmLt_irrefl _
      · rw [hn _ a1, hn _ hj'] at b2
        exact nmLt_asymm b2
  intro k
  induction k with
  | zero =>
    intro hk
    have hv : ∀ j, j < T → val7 dv' c K T nm' 0 j = val7 dv c K T nm 0 (σ j) := fun j hj => by
      rw [val7_zero, val7_zero]; exact rst_bij h hσ hd _ 0 rfl hk j hj
    exact ⟨key 0 hk hv, hv⟩
  | succ k ih =>
    intro hk
    obtain ⟨i1, i2⟩ := ih (by omega)
    obtain ⟨a1, _⟩ := ch7_ok h' (k := k) (by omega)
    have hv : ∀ j, j < T → val7 dv' c K T nm' (k + 1) j = val7 dv c K T nm (k + 1) (σ j) := fun j hj => by
      rw [val7_succ, val7_succ, ← i1, chg_bij hσ c a1 hj, rst_bij h hσ hd _ (k + 1) rfl hk j hj]
    exact ⟨key _ hk hv, hv⟩
theorem total7_bij (h : Dp dv c K T nm B) (hσ : Bij T σ) (hd : ∀ k i, i < T → dv' k i = dv k (σ i)) : total7 dv' c K T = total7 dv c K T := by
  have hK := h.K1
  unfold total7
  refine bestN_bij hσ (fun i hi hk => rst_nonneg h (by omega) ((okR_iff h (by omega) i).1 hk)) (fun i hi => ?_) (fun i hi _ => rst_bij h hσ hd _ 0 rfl (by omega) i hi)
  unfold okR
  rw [rst_bij h hσ hd _ 0 rfl (by omega) i hi]
end
theorem perm_bij {ts us : List Tf} (h : us.Perm ts) (hT : TfOk ts) : ∃ σ : Nat → Nat, Bij ts.length σ ∧ ∀ i, i < ts.length → gt7 us i = gt7 ts (σ i) := by
  have hl := h.length_eq
  have hu := hT.perm h
  have hex : ∀ i : Nat, ∃ j, i < ts.length → j < ts.length ∧ gt7 us i = gt7 ts j := fun i => by
    by_cases hi : i < us.length
    · obtain ⟨j, hj, e⟩ := perm_at h hi
      exact ⟨j, fun _ => ⟨hj, e.symm⟩⟩
    · exact ⟨0, fun h => absurd h (by omega)⟩
  obtain ⟨σ, hσ⟩ := Classical.axiomOfChoice hex
  have uq : ∀ {ts : List Tf}, TfOk ts → ∀ i j, i < ts.length → j < ts.length → (gt7 ts i).nm = (gt7 ts j).nm → i = j := fun {ts} hT i j hi hj e => by
    rcases Nat.lt_trichotomy i j with hlt | hlt | hlt
    · exact absurd e (hT.uniq j i hlt hj)
    · exact hlt
    · exact absurd e.symm (hT.uniq i j hlt hi)
  refine ⟨σ, ⟨fun i hi => (hσ i hi).1, fun i j hi hj e => ?_, fun j hj => ?_⟩, fun i hi => (hσ i hi).2⟩
  · refine uq hu i j (by omega) (by omega) ?_
    rw [(hσ i hi).2, (hσ j hj).2, e]
  · obtain ⟨i, hi, e⟩ := perm_at h.symm hj
    have hi' : i < ts.length := by omega
    refine ⟨i, hi', uq hT _ _ (hσ i hi').1 hj ?_⟩
    rw [← (hσ i hi').2, e]
theorem set_set_perm {α : Type} (l : List α) (i j : Nat) (hi : i < l.length) (hj : j < l.length) : ((l.set i l[j]).set j l[i]).Perm l := List.set_set_perm hi hj
end Go.Proofs.YtabmhfmglhjmjaaGreatDoor

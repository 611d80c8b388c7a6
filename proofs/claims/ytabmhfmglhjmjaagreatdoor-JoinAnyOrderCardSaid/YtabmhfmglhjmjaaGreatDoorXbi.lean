/- Parts of the proof, put together by a program. -/
import Derived.Test.YtabmhfmglhjmjaaGreatDoorXae
import Derived.Test.YtabmhfmglhjmjaaGreatDoorXam
import Derived.Test.YtabmhfmglhjmjaaGreatDoorXao
import Derived.Test.YtabmhfmglhjmjaaGreatDoorXbh
set_option linter.unusedVariables false
set_option linter.unusedSimpArgs false
set_option linter.unusedSectionVars false
namespace Go.Proofs.YtabmhfmglhjmjaaGreatDoor
open Go.Ab
attribute [local instance] drS
def ByNm (ys : List Tf) : Prop := ys.Pairwise fun a b => nmLt a.nm b.nm = true
def byN (ts : List Tf) : List Tf := ts.mergeSort fun a b => !nmLt b.nm a.nm
theorem byN_perm (ts : List Tf) : (byN ts).Perm ts := List.mergeSort_perm _ _
theorem byN_len (ts : List Tf) : (byN ts).length = ts.length := (byN_perm ts).length_eq
def NmU (ts : List Tf) : Prop := ts.Pairwise fun a b => a.nm ≠ b.nm
theorem TfOk.nmU {ts : List Tf} (h : TfOk ts) : NmU ts := by
  unfold NmU
  rw [List.pairwise_iff_getElem]
  intro i j hi hj hij
  have := h.uniq j i hij hj
  rwa [gt7_eq hi, gt7_eq hj] at this
theorem nmU_perm {xs ys : List Tf} (hp : xs.Perm ys) (h : NmU ys) : NmU xs := (hp.pairwise_iff (fun {a b} h => h.symm)).2 h
theorem byNm_of {ys : List Tf} (hu : NmU ys) (h : ∀ (i j : Nat) x y, i < j → ys[i]? = some x → ys[j]? = some y → nmLt y.nm x.nm = false) : ByNm ys := by
  unfold ByNm NmU at *
  rw [List.pairwise_iff_getElem] at hu ⊢
  intro i j hi hj hij
  have h1 := h i j _ _ hij (List.getElem?_eq_getElem hi) (List.getElem?_eq_getElem hj)
  have h2 := hu i j hi hj hij
  cases h3 : nmLt ys[i].nm ys[j].nm
  · exact absurd (nmLt_tri h3 h1) h2
  · rfl
theorem byN_sorted {ts : List Tf} (h : NmU ts) : ByNm (byN ts) := by
  have h1 : (byN ts).Pairwise fun a b => (!nmLt b.nm a.nm) = true := List.pairwise_mergeSort (fun a b c h1 h2 => by
    simp only [Bool.not_eq_true'] at h1 h2 ⊢
    exact nmLt_ntrans h2 h1) (fun a b => by
    cases h1 : nmLt b.nm a.nm
    · rfl
    · rw [nmLt_asymm h1]; rfl) ts
  refine byNm_of (nmU_perm (byN_perm ts) h) fun i j x y hij hx hy => ?_
  rw [List.pairwise_iff_getElem] at h1
  obtain ⟨hi, rfl⟩ := List.getElem?_eq_some_iff.1 hx
  obtain ⟨hj, rfl⟩ := List.getElem?_eq_some_iff.1 hy
  have := h1 i j hi hj hij
  simpa using this
theorem byNm_eq {xs ys : List Tf} (hp : xs.Perm ys) (hx : ByNm xs) (hy : ByNm ys) : xs = ys := by
  unfold ByNm at hx hy
  refine List.Perm.eq_of_pairwise (fun a b _ _ h1 h2 => ?_) hx hy hp
  rw [nmLt_asymm h1] at h2
  cases h2
theorem byN_eq {ts ys : List Tf} (h : NmU ts) (hp : ys.Perm ts) (hy : ByNm ys) : ys = byN ts := byNm_eq (hp.trans (byN_perm ts).symm) hy (byN_sorted h)
theorem byN_mem {ts : List Tf} {t : Tf} : t ∈ byN ts ↔ t ∈ ts := (byN_perm ts).mem_iff
structure DoneOk (ts : List Tf) (done : Nat → Bool) (n : Nat) : Prop where
  mem : ∀ i, i < ts.length → (done i = true ↔ gt7 ts i ∈ (byN ts).take n)
structure Dg where
  nm : ByteArray
  lo : Int
  hi : Int
def Dg.cells (d : Dg) : List AV := [.v (.string d.nm), iv d.lo, iv d.hi]
def dcs (l : List Dg) : List AV := l.flatMap Dg.cells
theorem dcs_len (l : List Dg) : (dcs l).length = l.length * 3 := fm_len (c := Dg.cells) (fun _ => rfl) l
theorem dcs_plain : ∀ l : List Dg, plainL (dcs l) = true
  | [] => rfl
  | d :: l => by
    have h := dcs_plain l
    unfold dcs at h ⊢
    rw [List.flatMap_cons]
    simp only [Dg.cells, List.cons_append, List.nil_append, plainL, AV.plain, iv, h, Bool.and_self]
def gd7 (l : List Dg) (i : Nat) : Dg := l.getD i ⟨ByteArray.empty, 0, 0⟩
theorem gd7_eq {l : List Dg} {i : Nat} (h : i < l.length) : gd7 l i = l[i] := by simp [gd7, h]
theorem dcs_at {l : List Dg} {i : Nat} (h : i < l.length) : ((dcs l).drop (i * 3)).take 3 = [.v (.string (gd7 l i).nm), iv (gd7 l i).lo, iv (gd7 l i).hi] := by
  rw [gd7_eq h]; exact fm_at (c := Dg.cells) (fun _ => rfl) h
theorem rev_ind {α : Type} {P : List α → Prop} (h0 : P []) (h1 : ∀ l t, P l → P (l ++ [t])) (l : List α) : P l := by
  have key : ∀ m : List α, P m.reverse := fun m => by
    induction m with
    | nil => exact h0
    | cons x m ih => rw [List.reverse_cons]; exact h1 _ _ ih
  have := key l.reverse
  rwa [List.reverse_reverse] at this
def stepD (nm : ByteArray) (p : Int) : List Dg → List Dg
  | [] => [⟨nm, p, p⟩]
  | r :: l => bif nmEq r.nm nm && r.hi == p - 1 then ⟨r.nm, r.lo, p⟩ :: l else ⟨nm, p, p⟩ :: r :: l
def badAt (t : Tf) (ms : List Int) (limit : Int) (p : Nat) : Bool := hasAt t (p : Nat) && !within (smp t (p : Nat) - gi ms (p : Nat)) (-limit) limit
def dmgTo (t : Tf) (ms : List Int) (limit : Int) (R : List Dg) : Nat → List Dg
  | 0 => R
  | p + 1 => bif badAt t ms limit p then stepD t.nm (p : Nat) (dmgTo t ms limit R p) else dmgTo t ms limit R p
def dmgR (ms : List Int) (limit : Int) (n : Nat) (order : List Tf) : List Dg := order.foldl (fun R t => dmgTo t ms limit R n) []
def dmgs (ts : List Tf) (limit : Int) (n : Nat) : List Dg := (dmgR (meds ts n) limit n (byN ts)).reverse
theorem dmgR_snoc (ms : List Int) (limit : Int) (n : Nat) (l : List Tf) (t : Tf) : dmgR ms limit n (l ++ [t]) = dmgTo t ms limit (dmgR ms limit n l) n := by simp [dmgR]
theorem stepD_len (nm : ByteArray) (p : Int) (R : List Dg) : (stepD nm p R).length ≤ R.length + 1 := by
  cases R with
  | nil => simp [stepD]
  | cons r l => rw [stepD]; cases nmEq r.nm nm && r.hi == p - 1 <;> simp
theorem dmgTo_len (t : Tf) (ms : List Int) (limit : Int) (R : List Dg) : ∀ n, (dmgTo t ms limit R n).length ≤ R.length + n
  | 0 => by simp [dmgTo]
  | n + 1 => by
    have ih := dmgTo_len t ms limit R n
    have := stepD_len t.nm (n : Nat) (dmgTo t ms limit R n)
    rw [dmgTo]
    cases badAt t ms limit n
    · rw [cond_false]; omega
    · rw [cond_true]; omega
theorem dmgR_len (ms : List Int) (limit : Int) (n : Nat) (l : List Tf) : (dmgR ms limit n l).length ≤ l.length * n := by
  refine rev_ind (P := fun l => (dmgR ms limit n l).length ≤ l.length * n) ?_ (fun l t ih => ?_) l
  · simp [dmgR]
  · skip
    have := dmgTo_len t ms limit (dmgR ms limit n l) n
    rw [dmgR_snoc, List.length_append, List.length_singleton, Nat.succ_mul]
    omega
end Go.Proofs.YtabmhfmglhjmjaaGreatDoor
set_option linter.unusedVariables false
set_option linter.unusedSimpArgs false
set_option linter.unusedSectionVars false
namespace Go.Proofs.YtabmhfmglhjmjaaGreatDoor
open Go.Ab
attribute [local instance] drS
theorem sorted_of_perm {xs ys : List Int} (h : xs.Perm ys) : sorted xs = sorted ys :=
  List.Perm.eq_of_pairwise (le := fun a b => a ≤ b) (fun a b _ _ h1 h2 => by omega) (sorted_pw xs) (sorted_pw ys) ((sorted_perm xs).trans (h.trans (sorted_perm ys).symm))
theorem mid_perm {xs ys : List Int} (h : xs.Perm ys) : mid xs = mid ys := by
  unfold mid; rw [sorted_of_perm h, h.length_eq]
section
variable {ts us : List Tf}
theorem col_perm (h : us.Perm ts) (p : Int) : (col us p).Perm (col ts p) := by
  rw [col_eq, col_eq]; exact (h.filter _).map _
theorem medAt_perm (h : us.Perm ts) (p : Int) : medAt us p = medAt ts p := mid_perm (col_perm h p)
theorem meds_perm (h : us.Perm ts) (n : Nat) : meds us n = meds ts n := by
  unfold meds; exact List.map_congr_left fun p _ => medAt_perm h _
theorem hole_perm (h : us.Perm ts) (p : Nat) : hole us p = hole ts p := by unfold hole; rw [(col_perm h _).length_eq]
theorem holes_perm (h : us.Perm ts) (n : Nat) : holes us n = holes ts n := by
  unfold holes; exact congrArg (List.any (List.range n)) (funext fun p => hole_perm h p)
theorem gt7_mem {i : Nat} (hi : i < us.length) : gt7 us i ∈ us := by rw [gt7_eq hi]; exact List.getElem_mem hi
theorem mem_gt7 {t : Tf} (h : t ∈ us) : ∃ i, i < us.length ∧ gt7 us i = t := by
  obtain ⟨i, hi, he⟩ := List.mem_iff_getElem.1 h
  exact ⟨i, hi, by rw [gt7_eq hi, he]⟩
theorem perm_at (h : us.Perm ts) {i : Nat} (hi : i < us.length) : ∃ j, j < ts.length ∧ gt7 ts j = gt7 us i := mem_gt7 (h.mem_iff.1 (gt7_mem hi))
theorem TfOk.perm (h : us.Perm ts) (hT : TfOk ts) : TfOk us := by
  have hu := nmU_perm h hT.nmU
  unfold NmU at hu
  rw [List.pairwise_iff_getElem] at hu
  refine ⟨?_, ?_, fun i hi => ?_, fun i j hj hi => ?_, fun i hi => ?_, fun i hi => ?_, fun i hi => ?_⟩
  · rw [h.length_eq]; exact hT.n1
  · rw [h.length_eq]; exact hT.n6
  · obtain ⟨j, hj, e⟩ := perm_at h hi
    rw [← e]; exact hT.name j hj
  · have hj' : j < us.length := by omega
    rw [gt7_eq hi, gt7_eq hj']
    exact hu j i hj' hi hj
  · obtain ⟨j, hj, e⟩ := perm_at h hi
    rw [← e]; exact hT.lag j hj
  · obtain ⟨j, hj, e⟩ := perm_at h hi
    rw [← e]; exact hT.len j hj
  · obtain ⟨j, hj, e⟩ := perm_at h hi
    rw [← e]; exact hT.smp j hj
theorem dvn_perm (h : us.Perm ts) {i j : Nat} (e : gt7 us i = gt7 ts j) (g k : Nat) : dvn us g k i = dvn ts g k j := by
  unfold dvn cov dvTo
  rw [e]
  simp only [medAt_perm h]
theorem gap7_iff (ts : List Tf) (g k : Nat) : gap7 ts g k = true ↔ ∀ i, i < ts.length → dvn ts g k i = -1 := by
  unfold gap7 devRow
  simp
theorem gap7_perm (h : us.Perm ts) (g k : Nat) : gap7 us g k = gap7 ts g k := by
  rw [Bool.eq_iff_iff, gap7_iff, gap7_iff]
  constructor
  · intro hh i hi
    obtain ⟨j, hj, e⟩ := perm_at h.symm hi
    rw [← dvn_perm h e]; exact hh j hj
  · intro hh i hi
    obtain ⟨j, hj, e⟩ := perm_at h hi
    rw [dvn_perm h e.symm]; exact hh j hj
theorem TkOk.perm {n g c : Int} {K G : Nat} (h : us.Perm ts) (hT : TkOk ts n g c K G) : TkOk us n g c K G := ⟨hT.ok.perm h, hT.nb, hT.gG, hT.G1, hT.cb, hT.K1, hT.K20, hT.KG⟩
theorem byN_of_perm (h : us.Perm ts) (hT : TfOk ts) : byN us = byN ts :=
  byN_eq hT.nmU ((byN_perm us).trans h) (byN_sorted (nmU_perm h hT.nmU))
theorem dmgs_perm (h : us.Perm ts) (hT : TfOk ts) (limit : Int) (n : Nat) : dmgs us limit n = dmgs ts limit n := by
  unfold dmgs; rw [byN_of_perm h hT, meds_perm h]
theorem signalErr_of {xs : List Int} (h : areSamples xs = true) (hl : xs.length ≤ 200) : signalErr xs = 0 := by
  unfold signalErr; rw [decide_eq_false (by omega), h]; rfl
theorem ckT_of (h : TfOk ts) : ckT ts = (0, 0) := by
  have h1 := h.n1
  have h6 := h.n6
  unfold ckT
  rw [show ((ts.length : Int) == 0) = false from beq_false_of_ne (by omega), show decide (6 < (ts.length : Int)) = false from decide_eq_false (by omega), cond_false, cond_false]
  refine fb7_zero _ fun i hi => firstE_all fun e he => ?_
  have hix : idxP (fun j => nmEq (gt7 ts j).nm (gt7 ts i).nm) i = -1 := idxP_none fun j hj => nmEq_false.2 (h.uniq i j hj hi)
  rw [h.name i hi, hix, within_iff.2 (h.lag i hi), signalErr_of (h.smp i hi) (h.len i hi)] at he
  simp [unlessE] at he
  exact he
theorem tkE_of {n g c : Int} {K G : Nat} (hT : TkOk ts n g c K G) (hg : ∀ k, k < K → gap7 ts G k = false) : tkE ts n g c = 0 := by
  obtain ⟨M, hM⟩ : ∃ M : Nat, n = M := ⟨n.toNat, by have := hT.nb; omega⟩
  have hgG := hT.gG
  have hKG := hT.KG
  have hG1 := hT.G1
  have hK1 := hT.K1
  have hK20 := hT.K20
  have hnb := hT.nb
  have hcb := hT.cb
  subst hgG hM
  have hMK : M = K * G := by rw [← Int.natCast_mul] at hKG; omega
  have hGM : G ≤ M := by rw [hMK]; exact Nat.le_mul_of_pos_left G (by omega)
  have h1 : tkE1 ts (M : Int) (G : Int) c = 0 := by
    unfold tkE1 lengthE
    rw [ckT_of hT.ok, within_iff.2 hnb, within_iff.2 (show (1 : Int) ≤ G ∧ (G : Int) ≤ M by omega), within_iff.2 hcb]; rfl
  have hdiv : ((M : Int)).tdiv (G : Int) = (K : Nat) := by rw [← Int.ofNat_tdiv, hMK, Nat.mul_div_cancel _ (by omega)]
  have hmod : ((M : Int)).tmod (G : Int) = 0 := by rw [← Int.ofNat_tmod, hMK, Nat.mul_mod_left]; rfl
  have h2 : tkE2 (M : Int) (G : Int) = 0 := by
    unfold tkE2
    rw [hdiv, hmod, decide_eq_true (show ((K : Nat) : Int) ≤ 20 by omega)]; rfl
  unfold tkE
  rw [h1, h2, Int.toNat_natCast, Int.toNat_natCast, hMK, Nat.mul_div_cancel _ (by omega), gaps7_false.2 hg]; rfl
theorem medE_of {n : Int} (hT : TfOk ts) (hn : 1 ≤ n ∧ n ≤ 200) (hh : holes ts n.toNat = false) : medE ts n = 0 := by
  unfold medE lengthE
  rw [ckT_of hT, within_iff.2 hn, hh]; rfl
end
structure Bij (T : Nat) (σ : Nat → Nat) : Prop where
  lt : ∀ i, i < T → σ i < T
  inj : ∀ i j, i < T → j < T → σ i = σ j → i = j
  surj : ∀ j, j < T → ∃ i, i < T ∧ σ i = j
theorem chg_bij {T : Nat} {σ : Nat → Nat} (h : Bij T σ) (c : Int) {i j : Nat} (hi : i < T) (hj : j < T) : chg c (σ i) (σ j) = chg c i j := by
  unfold chg
  congr 1
  rw [Bool.eq_iff_iff]
  simp only [beq_iff_eq]
  exact ⟨h.inj i j hi hj, fun e => by rw [e]⟩
theorem bestN_bij {T : Nat} {σ : Nat → Nat} (h : Bij T σ) {ok ok' : Nat → Bool} {f f' : Nat → Int} (hnn : ∀ i, i < T → ok i = true → 0 ≤ f i) (ho : ∀ i, i < T → ok' i = ok (σ i)) (hf : ∀ i, i < T → ok' i = true → f' i = f (σ i)) : bestN ok' f' T = bestN ok f T := by
  have hnn' : ∀ i, i < T → ok' i = true → 0 ≤ f' i := fun i hi hk => by
    rw [hf i hi hk]; exact hnn _ (h.lt i hi) (by rw [← ho i hi]; exact hk)
  rcases bestN_ok T hnn with ⟨a1, a2⟩ | ⟨i, a1, a2, a3, a4⟩
  · rcases bestN_ok T hnn' with ⟨b1, _⟩ | ⟨i', b1, b2, _, _⟩
    · rw [a1, b1]
    · rw [ho i' b1, a2 _ (h.lt i' b1)] at b2; cases b2
  · obtain ⟨i0, hi0, rfl⟩ := h.surj i a1
    rcases bestN_ok T hnn' with ⟨_, b2⟩ | ⟨i', b1, b2, b3, b4⟩
    · have := b2 i0 hi0
      rw [ho i0 hi0, a2] at this; cases this
    · have c1 := b4 i0 hi0 (by rw [ho i0 hi0]; exact a2)
      have c2 := a4 (σ i') (h.lt i' b1) (by rw [← ho i' b1]; exact b2)
      rw [hf i' b1 b2, hf i0 hi0 (by rw [ho i0 hi0]; exact a2)] at c1
      rw [a3, b3, hf i' b1 b2]
      omega
section
variable {dv dv' : Nat → Nat → Int} {c : Int} {K T : Nat} {nm nm' : Nat → ByteArray} {B B' : Int} {σ : Nat → Nat}
theorem rst_bij (h : Dp dv c K T nm B) (hσ : Bij T σ) (hd : ∀ k i, i < T → dv' k i = dv k (σ i)) : ∀ m k : Nat, K - 1 - k = m → k < K → ∀ i, i < T → rst dv' c K T k i = rst dv c K T k (σ i)
  | 0, k, hm, hk, i, hi => by
    obtain rfl : k = K - 1 := by omega
    rw [rst_last h.K1, rst_last h.K1, hd _ i hi]
  | m + 1, k, hm, hk, i, hi => by
    have ih := rst_bij h hσ hd m (k + 1) (by omega) (by omega)
    rw [rst_step (by omega), rst_step (by omega), hd k i hi]
    rw [bestN_bij hσ (ok := okR dv c K T (k + 1)) (f := fun j => chg c (σ i) j + rst dv c K T (k + 1) j)]
    · intro j hj hk2
      have h1 := rst_nonneg h (k := k + 1) (by omega) ((okR_iff h (by omega) j).1 hk2)
      have h2 := (chg_bound h.c0 (σ i) j).1
      omega
    · intro j hj
      unfold okR
      rw [ih j hj]
    · intro j hj _
      rw [ih j hj, chg_bij hσ c hi hj]
theorem ch7_bij (h : Dp dv c K T nm B) (h' : Dp dv' c K T nm' B') (hσ : Bij T σ) (hd : ∀ k i, i < T → dv' k i = dv k (σ i)) (hn : ∀ i, i < T → nm' i = nm (σ i)) : ∀ k, k < K → σ (ch7 dv' c K T nm' k) = ch7 dv c K T nm k ∧ ∀ j, j < T → val7 dv' c K T nm' k j = val7 dv c K T nm k (σ j) := by
  have key : ∀ k, k < K → (∀ j, j < T → val7 dv' c K T nm' k j = val7 dv c K T nm k (σ j)) → σ (ch7 dv' c K T nm' k) = ch7 dv c K T nm k := fun k hk hv => by
    obtain ⟨a1, a2, a3⟩ := ch7_ok h' hk
    refine (ch7_unique h hk (hσ.lt _ a1) (by rw [← hd k _ a1]; exact a2) fun j hj hdj => ?_).symm
    obtain ⟨j', hj', rfl⟩ := hσ.surj j hj
    rcases a3 j' hj' (by rw [hd k j' hj']; exact hdj) with b | ⟨b, b2⟩
    · left; rw [← hv _ a1, ← hv _ hj']; exact b
    · right
      rw [← hv _ a1, ← hv _ hj']
      refine ⟨b, ?_⟩
      rcases b2 with rfl | b2
      · exact nmLt_irrefl _
      · rw [hn _ a1, hn _ hj'] at b2
        exact nmLt_asymm b2
  intro k
  induction k with
  | zero =>
    intro hk
    have hv : ∀ j, j < T → val7 dv' c K T nm' 0 j = val7 dv c K T nm 0 (σ j) := fun j hj => by
      rw [val7_zero, val7_zero]; exact rst_bij h hσ hd _ 0 rfl hk j hj
    exact ⟨key 0 hk hv, hv⟩
  | succ k ih =>
    intro hk
    obtain ⟨i1, i2⟩ := ih (by omega)
    obtain ⟨a1, _⟩ := ch7_ok h' (k := k) (by omega)
    have hv : ∀ j, j < T → val7 dv' c K T nm' (k + 1) j = val7 dv c K T nm (k + 1) (σ j) := fun j hj => by
      rw [val7_succ, val7_succ, ← i1, chg_bij hσ c a1 hj, rst_bij h hσ hd _ (k + 1) rfl hk j hj]
    exact ⟨key _ hk hv, hv⟩
theorem total7_bij (h : Dp dv c K T nm B) (hσ : Bij T σ) (hd : ∀ k i, i < T → dv' k i = dv k (σ i)) : total7 dv' c K T = total7 dv c K T := by
  have hK := h.K1
  unfold total7
  refine bestN_bij hσ (fun i hi hk => rst_nonneg h (by omega) ((okR_iff h (by omega) i).1 hk)) (fun i hi => ?_) (fun i hi _ => rst_bij h hσ hd _ 0 rfl (by omega) i hi)
  unfold okR
  rw [rst_bij h hσ hd _ 0 rfl (by omega) i hi]
end
theorem perm_bij {ts us : List Tf} (h : us.Perm ts) (hT : TfOk ts) : ∃ σ : Nat → Nat, Bij ts.length σ ∧ ∀ i, i < ts.length → gt7 us i = gt7 ts (σ i) := by
  have hl := h.length_eq
  have hu := hT.perm h
  have hex : ∀ i : Nat, ∃ j, i < ts.length → j < ts.length ∧ gt7 us i = gt7 ts j := fun i => by
    by_cases hi : i < us.length
    · obtain ⟨j, hj, e⟩ := perm_at h hi
      exact ⟨j, fun _ => ⟨hj, e.symm⟩⟩
    · exact ⟨0, fun h => absurd h (by omega)⟩
  obtain ⟨σ, hσ⟩ := Classical.axiomOfChoice hex
  have uq : ∀ {ts : List Tf}, TfOk ts → ∀ i j, i < ts.length → j < ts.length → (gt7 ts i).nm = (gt7 ts j).nm → i = j := fun {ts} hT i j hi hj e => by
    rcases Nat.lt_trichotomy i j with hlt | hlt | hlt
    · exact absurd e (hT.uniq j i hlt hj)
    · exact hlt
    · exact absurd e.symm (hT.uniq i j hlt hi)
  refine ⟨σ, ⟨fun i hi => (hσ i hi).1, fun i j hi hj e => ?_, fun j hj => ?_⟩, fun i hi => (hσ i hi).2⟩
  · refine uq hu i j (by omega) (by omega) ?_
    rw [(hσ i hi).2, (hσ j hj).2, e]
  · obtain ⟨i, hi, e⟩ := perm_at h.symm hj
    have hi' : i < ts.length := by omega
    refine ⟨i, hi', uq hT _ _ (hσ i hi').1 hj ?_⟩
    rw [← (hσ i hi').2, e]
theorem set_set_perm {α : Type} (l : List α) (i j : Nat) (hi : i < l.length) (hj : j < l.length) : ((l.set i l[j]).set j l[i]).Perm l := List.set_set_perm hi hj
end Go.Proofs.YtabmhfmglhjmjaaGreatDoor
set_option maxRecDepth 100000
set_option maxHeartbeats 4000000
set_option linter.unusedSimpArgs false
set_option linter.unusedVariables false
set_option linter.unusedSectionVars false
namespace Go.Proofs.YtabmhfmglhjmjaaGreatDoor
open Go.Ab Go.RowKit
variable [Dr]
theorem gpT_snoc_lt {l : List Pc} {x : Pc} {i : Nat} (h : i < l.length) : gpT (l ++ [x]) i = gpT l i := by
  simp [gpT, List.getD_eq_getElem?_getD, List.getElem?_append_left h]
theorem gpT_snoc_at {l : List Pc} {x : Pc} {i : Nat} (h : i = l.length) : gpT (l ++ [x]) i = x := by
  subst h; simp [gpT]
theorem pcAt_snoc_lt {l : List Pc} {x : Pc} {pos : Int} : ∀ {m : Nat}, m ≤ l.length → pcAt (l ++ [x]) pos m = pcAt l pos m
  | 0, _ => rfl
  | m + 1, h => by rw [pcAt, pcAt, gpT_snoc_lt (by omega), pcAt_snoc_lt (by omega)]
theorem kg_lt {g : Int} (hg : 1 ≤ g) {k m : Nat} (h : k < m) : (k : Int) * g < (m : Int) * g := Int.mul_lt_mul_of_pos_right (by omega) (by omega)
theorem kg_le {g : Int} (hg : 1 ≤ g) {k m : Nat} (h : k ≤ m) : (k : Int) * g ≤ (m : Int) * g := Int.mul_le_mul_of_nonneg_right (by omega) (by omega)
structure PtOk (ts : List Tf) (g : Int) (is : List Int) (m : Nat) : Prop where
  pos : 1 ≤ m → 1 ≤ (plTo ts g is m).length
  z : 1 ≤ m → (gpT (plTo ts g is m) 0).fr = 0
  of : ∀ q, q < (plTo ts g is m).length → ∃ k, k < m ∧ gpT (plTo ts g is m) q = pcOf ts g is k
  up : ∀ q, 1 ≤ q → q < (plTo ts g is m).length → (gpT (plTo ts g is m) (q - 1)).fr < (gpT (plTo ts g is m) q).fr
theorem pt_ok (ts : List Tf) {g : Int} (is : List Int) (hg : 1 ≤ g) : ∀ m, PtOk ts g is m
  | 0 => ⟨fun h => absurd h (by omega), fun h => absurd h (by omega), fun q hq => absurd hq (Nat.not_lt_zero _), fun q _ hq => absurd hq (Nat.not_lt_zero _)⟩
  | m + 1 => by
    have ih := pt_ok ts is hg m
    have hsu : plTo ts g is (m + 1) = bif pnew is m then plTo ts g is m ++ [pcOf ts g is m] else plTo ts g is m := rfl
    cases hp : pnew is m
    · rw [hp, cond_false] at hsu
      have hm : 1 ≤ m := by
        rcases Nat.eq_zero_or_pos m with rfl | h
        · cases hp
        · exact h
      refine ⟨fun _ => by rw [hsu]; exact ih.pos hm, fun _ => by rw [hsu]; exact ih.z hm, fun q hq => ?_, fun q h1 hq => ?_⟩
      · rw [hsu] at hq ⊢
        obtain ⟨k, h1, h2⟩ := ih.of q hq
        exact ⟨k, by omega, h2⟩
      · rw [hsu] at hq ⊢
        exact ih.up q h1 hq
    · rw [hp, cond_true] at hsu
      obtain ⟨l, hl⟩ : ∃ l, plTo ts g is m = l := ⟨_, rfl⟩
      have hlen : (plTo ts g is m ++ [pcOf ts g is m]).length = (plTo ts g is m).length + 1 := by rw [List.length_append, List.length_singleton]
      refine ⟨fun _ => by rw [hsu, hlen]; omega, fun _ => ?_, fun q hq => ?_, fun q h1 hq => ?_⟩
      · rw [hsu]
        rcases Nat.eq_zero_or_pos m with rfl | h
        · have e := gpT_snoc_at (l := plTo ts g is 0) (x := pcOf ts g is 0) (i := 0) rfl
          rw [e]
          show ((0 : Nat) : Int) * g = 0
          rw [Int.natCast_zero, Int.zero_mul]
        · rw [gpT_snoc_lt (ih.pos h)]
          exact ih.z h
      · rw [hsu, hlen] at hq
        rw [hsu]
        by_cases e : q < (plTo ts g is m).length
        · obtain ⟨k, h1, h2⟩ := ih.of q e
          exact ⟨k, by omega, by rw [gpT_snoc_lt e]; exact h2⟩
        · exact ⟨m, by omega, gpT_snoc_at (by omega)⟩
      · rw [hsu, hlen] at hq
        rw [hsu]
        by_cases e : q < (plTo ts g is m).length
        · rw [gpT_snoc_lt e, gpT_snoc_lt (by omega)]
          exact ih.up q h1 e
        · obtain rfl : q = (plTo ts g is m).length := by omega
          rw [gpT_snoc_at rfl, gpT_snoc_lt (by omega)]
          obtain ⟨k, h2, h3⟩ := ih.of ((plTo ts g is m).length - 1) (by omega)
          rw [h3]
          exact kg_lt hg h2
theorem pcAt_pl (ts : List Tf) {g : Int} (is : List Int) (hg : 1 ≤ g) {pos : Int} : ∀ m k : Nat, k < m → (k : Int) * g ≤ pos → (k + 1 < m → pos < ((k + 1 : Nat) : Int) * g) →
    (pcAt (plTo ts g is m) pos (plTo ts g is m).length).so = gi is k ∧ (pcAt (plTo ts g is m) pos (plTo ts g is m).length).lag = (gt7 ts (gi is k).toNat).lag
  | 0, k, hk, _, _ => absurd hk (by omega)
  | m + 1, k, hk, h1, h2 => by
    have ih := pcAt_pl ts is hg (pos := pos) m
    have hsu : plTo ts g is (m + 1) = bif pnew is m then plTo ts g is m ++ [pcOf ts g is m] else plTo ts g is m := rfl
    cases hp : pnew is m
    · rw [hp, cond_false] at hsu
      rw [hsu]
      by_cases e : k < m
      · exact ih k e h1 (fun h => h2 (by omega))
      · obtain rfl : k = m := by omega
        unfold pnew at hp
        rw [Bool.or_eq_false_iff] at hp
        have hk0 : k ≠ 0 := by simpa using hp.1
        have hk1 : gi is ((k : Int) - 1) = gi is k := by simpa using hp.2
        rw [← hk1, show (k : Int) - 1 = ((k - 1 : Nat) : Int) by omega]
        have h3 := kg_le hg (show k - 1 ≤ k by omega)
        exact ih (k - 1) (by omega) (by omega) (fun h => absurd h (by omega))
    · rw [hp, cond_true] at hsu
      rw [hsu, List.length_append, List.length_singleton, pcAt, gpT_snoc_at rfl, pcAt_snoc_lt (Nat.le_refl _)]
      by_cases e : k < m
      · have h3 := kg_le hg (show k + 1 ≤ m by omega)
        have h4 := h2 (by omega)
        have : ¬ (pcOf ts g is m).fr ≤ pos := by
          show ¬ (m : Int) * g ≤ pos
          omega
        rw [decide_eq_false this, cond_false]
        exact ih k e h1 (fun h => h2 (by omega))
      · obtain rfl : k = m := by omega
        have : (pcOf ts g is k).fr ≤ pos := h1
        rw [decide_eq_true this, cond_true]
        exact ⟨rfl, rfl⟩
theorem ckP_pl {ts : List Tf} {n g c : Int} {N G : Nat} (hT : TkOk ts n g c N G) {is : List Int} (his : ∀ k : Nat, k < N → 0 ≤ gi is k ∧ gi is k < ts.length) : (ckP n (plTo ts g is N)).2 = 0 := by
  have hg : 1 ≤ g := by have := hT.gG; have := hT.G1; omega
  have h := pt_ok ts is hg N
  have hK1 := hT.K1
  have hK20 := hT.K20
  have hn := hT.nb
  have h6 := hT.ok.n6
  have hl1 := h.pos hK1
  have hl2 := plTo_len ts g is N
  have h0 : plE0 n (plTo ts g is N) = 0 := by
    unfold plE0 lengthE
    rw [within_iff.2 hn, decide_eq_true (show (0 : Int) < ((plTo ts g is N).length : Nat) by omega), decide_eq_true (show (((plTo ts g is N).length : Nat) : Int) ≤ 20 by omega)]; rfl
  unfold ckP
  rw [h0, bne_self_eq_false, cond_false, fb7_zero]
  intro q hq
  obtain ⟨k, hk, e⟩ := h.of q hq
  have hi := his k hk
  obtain ⟨i, hii⟩ : ∃ i : Nat, gi is k = i := ⟨(gi is k).toNat, by omega⟩
  have hso : (gpT (plTo ts g is N) q).so = i := by rw [e]; exact hii
  have hlag : (gpT (plTo ts g is N) q).lag = (gt7 ts i).lag := by rw [e]; show (gt7 ts (gi is k).toNat).lag = _; rw [hii, Int.toNat_natCast]
  have hfr : (gpT (plTo ts g is N) q).fr = k * g := by rw [e]; rfl
  have hkn : (k : Int) * g < n := by
    have := kg_lt hg hk
    have hKG := hT.KG
    have hgG := hT.gG
    rw [hKG, ← hgG]; exact this
  have hord : pord (plTo ts g is N) n q = true := by
    unfold pord
    rcases Nat.eq_zero_or_pos q with rfl | hq1
    · rw [h.z hK1]; rfl
    · rw [beq_ne (by omega), cond_false, decide_eq_true (h.up q hq1 hq), hfr, decide_eq_true hkn]; rfl
  unfold pcE
  rw [hso, hlag, hord, within_iff.2 (show (0 : Int) ≤ i ∧ (i : Int) ≤ 5 by omega), within_iff.2 (hT.ok.lag i (by omega))]; rfl
theorem cov_of {ts : List Tf} {g k i : Nat} (h : dvn ts g k i ≠ -1) : cov ts g k i = true := by
  unfold dvn at h
  cases hc : cov ts g k i
  · rw [hc] at h; exact absurd rfl h
  · rfl
theorem jn_pl {ts : List Tf} {n g c : Int} {N G : Nat} (hT : TkOk ts n g c N G) {l : List ByteArray} (he : cErr ts G N l = 0) :
    jnE n (plTo ts g (cIxs ts l N) N) (ts.map Tf.xs) = 0 ∧ ∀ p : Nat, p < n.toNat → p / G < N ∧ hasAt (gt7 ts (cNat ts l (p / G))) (p : Nat) = true ∧ jV (plTo ts g (cIxs ts l N) N) (ts.map Tf.xs) p = smp (gt7 ts (cNat ts l (p / G))) (p : Nat) := by
  obtain ⟨hlN, hall⟩ := cErr_zero he
  have hgG := hT.gG
  have hG1 := hT.G1
  have hnb := hT.nb
  have hKG := hT.KG
  have h6 := hT.ok.n6
  have hnN : n.toNat = N * G := by rw [← Int.natCast_mul] at hKG; omega
  have hg : 1 ≤ g := by omega
  have his : ∀ k : Nat, k < N → gi (cIxs ts l N) k = (cNat ts l k : Nat) ∧ cNat ts l k < ts.length := fun k hk => by
    obtain ⟨a1, a2, _, _⟩ := cEr_ok (hall k hk)
    exact ⟨by rw [gi_cIxs hk, a1], a2⟩
  have hck := ckP_pl hT (is := cIxs ts l N) (fun k hk => by have := his k hk; omega)
  have hss : ∀ i, i < ts.length → gS (ts.map Tf.xs) i = (gt7 ts i).xs := fun i hi => by simp [gS, gt7, hi]
  have hat : ∀ p : Nat, p < n.toNat → p / G < N ∧ hasAt (gt7 ts (cNat ts l (p / G))) (p : Nat) = true ∧ (pcAt (plTo ts g (cIxs ts l N) N) (p : Nat) (plTo ts g (cIxs ts l N) N).length).so = (cNat ts l (p / G) : Nat) ∧ (pcAt (plTo ts g (cIxs ts l N) N) (p : Nat) (plTo ts g (cIxs ts l N) N).length).lag = (gt7 ts (cNat ts l (p / G))).lag := fun p hp => by
    have hk : p / G < N := by rw [Nat.div_lt_iff_lt_mul (by omega)]; omega
    obtain ⟨b1, b2⟩ := his _ hk
    obtain ⟨_, _, a3, _⟩ := cEr_ok (hall _ hk)
    have hdm := Nat.div_add_mod p G
    have hml := Nat.mod_lt p (show 0 < G by omega)
    rw [Nat.mul_comm] at hdm
    have hlo : ((p / G : Nat) : Int) * g ≤ (p : Nat) := by rw [hgG, ← Int.natCast_mul]; omega
    have hhi : ((p : Nat) : Int) < ((p / G + 1 : Nat) : Int) * g := by rw [hgG, ← Int.natCast_mul, Nat.succ_mul]; omega
    obtain ⟨c1, c2⟩ := pcAt_pl ts (cIxs ts l N) hg (pos := (p : Nat)) N (p / G) hk hlo (fun _ => hhi)
    rw [b1] at c1 c2
    rw [Int.toNat_natCast] at c2
    refine ⟨hk, ?_, c1, c2⟩
    have := cov_iff.1 (cov_of a3) (p % G) hml
    rw [hdm] at this
    exact this
  refine ⟨?_, fun p hp => ?_⟩
  · unfold jnE
    rw [hck, bne_self_eq_false, cond_false, List.length_map, decide_eq_false (by omega), cond_false, fb7_zero ts.length (fun i hi => ?_), bne_self_eq_false, cond_false, fb7_zero n.toNat (fun p hp => ?_)]
    · obtain ⟨hk, hh, a1, a2⟩ := hat p hp
      obtain ⟨b1, b2⟩ := his _ hk
      unfold jE
      rw [a1, a2, List.length_map, decide_eq_false (by omega), cond_false, Int.toNat_natCast, hss _ b2]
      unfold hasAt at hh
      rw [hh]; rfl
    · unfold sgE
      rw [hss i hi]
      exact signalErr_of (hT.ok.smp i hi) (hT.ok.len i hi)
  · obtain ⟨hk, hh, a1, a2⟩ := hat p hp
    obtain ⟨b1, b2⟩ := his _ hk
    refine ⟨hk, hh, ?_⟩
    unfold jV
    rw [a1, a2, Int.toNat_natCast, hss _ b2]; rfl
theorem best_perm {ts us : List Tf} {n g c : Int} {N G : Nat} (h : us.Perm ts) (hT : TkOk ts n g c N G) (hg : ∀ k, k < N → gap7 ts G k = false) :
    namA (dvn us G) c N us.length (fun i => (gt7 us i).nm) N = namA (dvn ts G) c N ts.length (fun i => (gt7 ts i).nm) N ∧ total7 (dvn us G) c N us.length = total7 (dvn ts G) c N ts.length := by
  have hd := tk_dp hT hg
  have hd' := tk_dp (hT.perm h) fun k hk => by rw [gap7_perm h]; exact hg k hk
  obtain ⟨σ, hσ, hs⟩ := perm_bij h hT.ok
  rw [h.length_eq] at hd' ⊢
  have hdv : ∀ k i, i < ts.length → dvn us G k i = dvn ts G k (σ i) := fun k i hi => dvn_perm h (hs i hi) G k
  refine ⟨?_, total7_bij hd hσ hdv⟩
  unfold namA
  refine List.map_congr_left fun k hk => ?_
  have hk := List.mem_range.1 hk
  have e := (ch7_bij hd hd' hσ hdv (fun i hi => by rw [hs i hi]) k hk).1
  dsimp only
  rw [← e, hs _ (ch7_ok hd' hk).1]
end Go.Proofs.YtabmhfmglhjmjaaGreatDoor
set_option maxRecDepth 100000
set_option maxHeartbeats 4000000
set_option linter.unusedSimpArgs false
set_option linter.unusedVariables false
set_option linter.unusedSectionVars false
namespace Go.Proofs.YtabmhfmglhjmjaaGreatDoor
open Go.Ab Go.RowKit
variable [Dr]
theorem c_Mod (n b : Int) (hb : 1 ≤ b ∧ b ≤ 1000000) : Pure Tryz.prog 77 [iv n, iv b] (iv (n % b)) := by
  have h1 := Int.emod_nonneg n (show b ≠ 0 by omega)
  have h2 := Int.emod_lt_of_pos n (show 0 < b by omega)
  have h3 : n.tmod b = n % b ∨ n.tmod b = n % b - b := by
    by_cases h0 : 0 ≤ n
    · exact .inl (Int.tmod_eq_emod_of_nonneg h0)
    · have := Int.tmod_eq_emod (a := n) (b := b)
      rw [this]
      split
      · left; omega
      · right
        have : (b.natAbs : Int) = b := by omega
        omega
  cases hs : decide (n.tmod b < 0)
  · have hs' := of_decide_eq_false hs
    have he : n.tmod b = n % b := by omega
    rw [he] at hs
    refine p_intro evOk [] Tryz.func77 rfl Tryz.call77 ?_
    repeat' first
     | refine v_seq ?_ | refine v_block ?_ | refine v_ret ?_ | refine v_skip ?_ | (refine v_exit ?_; repeat' first | refine xB_eq ?_ | refine xB_ne rfl ?_)
     | ((first | refine rgA fun K hK => ?_ | refine rgB rfl fun K hK => ?_ | refine rgC rfl fun K hK => ?_); simp only [go_sem,simprocAttr,he,hs])
     | (simp (disch := first | omega | rfl | (simp only [lnn]; omega)) only [spl])
     | (refine hK _ ?_; clear hK K)
     | (refine gdB_intro (fun h => ?_) (fun h => ?_) <;> simp only [go_sem,simprocAttr,h,he,hs] <;> (have h' := h; try simp only [bl] at h'))
     | (refine v_cond rfl (fun h => ?_) (fun h => ?_) <;> first | (exact Bool.noConfusion h) | (have h' := h; try simp only [bl] at h'))
     | (refine r_ret ?_; simp only [resL, resA, Tryz.f77, lk_cons', lk_nil', Nat.reduceBEq]; first | exact ⟨rfl, Sb.nil _, rfl⟩ | refine ⟨rfl, sbt ?_, rfl⟩ | refine ⟨rfl, Sb.of_eq ?_, rfl⟩)
     | (refine And.intro (by first | exact True.intro | omega | rfl | exact Nat.le_of_ble_eq_true rfl | (simp only [lnn]; omega) | exact List.forall_mem_nil _ | (refine List.forall_mem_cons.2 ⟨⟨_, rfl⟩, ?_⟩; repeat' first | exact List.forall_mem_nil _ | refine List.forall_mem_cons.2 ⟨⟨_, rfl⟩, ?_⟩)) ?_)
     | fail
    all_goals first | rfl | (exfalso; omega)
  · have hs' := of_decide_eq_true hs
    have he : n.tmod b = n % b - b := by omega
    rw [he] at hs
    have hz : n % b - b + b = n % b := by omega
    refine p_intro evOk [] Tryz.func77 rfl Tryz.call77 ?_
    repeat' first
     | refine v_seq ?_ | refine v_block ?_ | refine v_ret ?_ | refine v_skip ?_ | (refine v_exit ?_; repeat' first | refine xB_eq ?_ | refine xB_ne rfl ?_)
     | ((first | refine rgA fun K hK => ?_ | refine rgB rfl fun K hK => ?_ | refine rgC rfl fun K hK => ?_); simp only [go_sem,simprocAttr,he,hs,hz])
     | (simp (disch := first | omega | rfl | (simp only [lnn]; omega)) only [spl])
     | (refine hK _ ?_; clear hK K)
     | (refine gdB_intro (fun h => ?_) (fun h => ?_) <;> simp only [go_sem,simprocAttr,h,he,hs,hz] <;> (have h' := h; try simp only [bl] at h'))
     | (refine v_cond rfl (fun h => ?_) (fun h => ?_) <;> first | (exact Bool.noConfusion h) | (have h' := h; try simp only [bl] at h'))
     | (refine r_ret ?_; simp only [resL, resA, Tryz.f77, lk_cons', lk_nil', Nat.reduceBEq]; first | exact ⟨rfl, Sb.nil _, rfl⟩ | refine ⟨rfl, sbt ?_, rfl⟩ | refine ⟨rfl, Sb.of_eq ?_, rfl⟩)
     | (refine And.intro (by first | exact True.intro | omega | rfl | exact Nat.le_of_ble_eq_true rfl | (simp only [lnn]; omega) | exact List.forall_mem_nil _ | (refine List.forall_mem_cons.2 ⟨⟨_, rfl⟩, ?_⟩; repeat' first | exact List.forall_mem_nil _ | refine List.forall_mem_cons.2 ⟨⟨_, rfl⟩, ?_⟩)) ?_)
     | fail
    all_goals first | rfl | (exfalso; omega)
theorem f_CopyTransfers (ts : List Tf) (hl : Len ts.length) (hn : ∀ i, i < ts.length → Len (gt7 ts i).xs.length) : Fresh Tryz.prog 53 [tsl ts] 3 ts.length (tcs ts) := by
  have hL := tcs_len ts
  unfold Len at hl
  refine fresh_intro evOk [3, 5] Tryz.func53 rfl Tryz.call53 ?_
  have hone := tcs_one ts
  repeat' first
   | refine v_seq ?_ | refine v_block ?_ | refine v_ret ?_ | refine v_skip ?_ | (refine v_exit ?_; repeat' first | refine xB_eq ?_ | refine xB_ne rfl ?_)
   | ((first | refine rgA fun K hK => ?_ | refine rgB rfl fun K hK => ?_ | refine rgC rfl fun K hK => ?_); simp only [go_sem,simprocAttr,hL,hone])
   | (simp (disch := first | omega | rfl | (simp only [lnn]; omega)) only [spl])
   | (refine hK _ ?_; clear hK K)
   | (refine gdB_intro (fun h => ?_) (fun h => ?_) <;> simp only [go_sem,simprocAttr,h,hL,hone] <;> (have h' := h; try simp only [bl] at h'))
   | (refine v_cond rfl (fun h => ?_) (fun h => ?_) <;> first | (exact Bool.noConfusion h) | (have h' := h; try simp only [bl] at h'))
   | (refine r_ret ?_; simp only [resL, resA, Tryz.f53, lk_cons', lk_nil', Nat.reduceBEq]; first | exact ⟨rfl, Sb.nil _, rfl⟩ | refine ⟨rfl, sbt ?_, rfl⟩ | refine ⟨rfl, Sb.of_eq ?_, rfl⟩)
   | (refine And.intro (by first | exact True.intro | omega | rfl | exact Nat.le_of_ble_eq_true rfl | (simp only [lnn]; omega) | exact List.forall_mem_nil _ | (refine List.forall_mem_cons.2 ⟨⟨_, rfl⟩, ?_⟩; repeat' first | exact List.forall_mem_nil _ | refine List.forall_mem_cons.2 ⟨⟨_, rfl⟩, ?_⟩)) ?_)
   | fail
  refine v_loop (T := Nat) (fun i => ⟨[(0, tsl ts), (3, .ls 1 0 3 ts.length), (4, iv i)], hls [(1, tcs ts)], 2, (25, 0, 0)⟩) (fun i => i ≤ ts.length) (fun i => ts.length - i) 0 (by omega) ?_ ?_
  · exact ent_rows [(1, tcs ts)] (by (repeat' first | exact trivial | refine ⟨?_, ?_⟩ | rfl | (refine congrArg (fun z => some (AV.v (Value.int .i64 z))) ?_; omega))) rfl ⟨⟨rfl, by (first | omega | (dsimp only; omega))⟩, True.intro⟩ (Nat.le_refl _)
  intro i hi
  by_cases hi2 : i < ts.length
  · have hd : decide ((i : Int) < ts.length) = true := decide_eq_true (by omega)
    have t2 : (tcs ts)[((i : Nat) : Int).toNat * 3 + 2]? = some (isl (gt7 ts i).xs) := tcs_2 hi2
    have kc := c_CopyInts (gt7 ts i).xs (hn i hi2)
    have s2 : splice (tcs ts) (((i : Nat) : Int).toNat * 3 + 2) [isl (gt7 ts i).xs] = tcs ts := splice_same t2
    have s3 : (tcs ts).set (((i : Nat) : Int).toNat * 3 + 2) (isl (gt7 ts i).xs) = tcs ts := set_same t2
    repeat' first
     | refine v_seq ?_ | refine v_block ?_ | refine v_ret ?_ | refine v_skip ?_ | (refine v_exit ?_; repeat' first | refine xB_eq ?_ | refine xB_ne rfl ?_)
     | ((first | refine rgA fun K hK => ?_ | refine rgB rfl fun K hK => ?_ | refine rgC rfl fun K hK => ?_); simp only [go_sem,simprocAttr,hd,hL,hls,t2,s2,s3,hset_at,hset_hset])
     | (simp (disch := first | omega | rfl | (simp only [lnn]; omega)) only [spl])
     | (refine hK _ ?_; clear hK K)
     | (refine gdB_intro (fun h => ?_) (fun h => ?_) <;> simp only [go_sem,simprocAttr,h,hd,hL,hls,t2,s2,s3,hset_at,hset_hset] <;> (have h' := h; try simp only [bl] at h'))
     | (refine v_cond rfl (fun h => ?_) (fun h => ?_) <;> first | (exact Bool.noConfusion h) | (have h' := h; try simp only [bl] at h'))
     | (refine r_ret ?_; simp only [resL, resA, Tryz.f53, lk_cons', lk_nil', Nat.reduceBEq]; first | exact ⟨rfl, Sb.nil _, rfl⟩ | refine ⟨rfl, sbt ?_, rfl⟩ | refine ⟨rfl, Sb.of_eq ?_, rfl⟩)
     | (refine And.intro (by first | exact True.intro | omega | rfl | exact Nat.le_of_ble_eq_true rfl | (simp only [lnn]; omega) | exact List.forall_mem_nil _ | (refine List.forall_mem_cons.2 ⟨⟨_, rfl⟩, ?_⟩; repeat' first | exact List.forall_mem_nil _ | refine List.forall_mem_cons.2 ⟨⟨_, rfl⟩, ?_⟩)) ?_)
     | ((first | refine call_pure' (kc) rfl ?_); simp only [go_sem,simprocAttr,hd,hL,hls,t2,s2,s3,hset_at,hset_hset])
     | (simp only [go_sem,simprocAttr,hd,hL,hls,t2,s2,s3,hset_at,hset_hset])
     | fail
    refine ⟨i + 1, ?_, by omega, by omega⟩
    exact ent_rows [(1, tcs ts)] (by (repeat' first | exact trivial | refine ⟨?_, ?_⟩ | rfl | (refine congrArg (fun z => some (AV.v (Value.int .i64 z))) ?_; omega))) rfl ⟨⟨rfl, by (first | omega | (dsimp only; omega))⟩, True.intro⟩ (Nat.le_refl _)
  · obtain rfl : i = ts.length := by omega
    have hd : decide ((ts.length : Int) < ts.length) = false := decide_eq_false (by omega)
    repeat' first
     | refine v_seq ?_ | refine v_block ?_ | refine v_ret ?_ | refine v_skip ?_ | (refine v_exit ?_; repeat' first | refine xB_eq ?_ | refine xB_ne rfl ?_)
     | ((first | refine rgA fun K hK => ?_ | refine rgB rfl fun K hK => ?_ | refine rgC rfl fun K hK => ?_); simp only [go_sem,simprocAttr,hd,hL,hls])
     | (simp (disch := first | omega | rfl | (simp only [lnn]; omega)) only [spl])
     | (refine hK _ ?_; clear hK K)
     | (refine gdB_intro (fun h => ?_) (fun h => ?_) <;> simp only [go_sem,simprocAttr,h,hd,hL,hls] <;> (have h' := h; try simp only [bl] at h'))
     | (refine v_cond rfl (fun h => ?_) (fun h => ?_) <;> first | (exact Bool.noConfusion h) | (have h' := h; try simp only [bl] at h'))
     | (refine r_ret ?_; simp only [resL, resA, Tryz.f53, lk_cons', lk_nil', Nat.reduceBEq]; first | exact ⟨rfl, Sb.nil _, rfl⟩ | refine ⟨rfl, sbt ?_, rfl⟩ | refine ⟨rfl, Sb.of_eq ?_, rfl⟩)
     | (refine And.intro (by first | exact True.intro | omega | rfl | exact Nat.le_of_ble_eq_true rfl | (simp only [lnn]; omega) | exact List.forall_mem_nil _ | (refine List.forall_mem_cons.2 ⟨⟨_, rfl⟩, ?_⟩; repeat' first | exact List.forall_mem_nil _ | refine List.forall_mem_cons.2 ⟨⟨_, rfl⟩, ?_⟩)) ?_)
     | fail
    refine ⟨_, Ent.refl _, ?_⟩
    simp only [resL, resA, Tryz.f53, lk_cons', lk_nil', Nat.reduceBEq]
    exact ⟨_, rfl, rfl, tcs_plain _⟩
theorem m_CopyTask (ts : List Tf) (n g c : Int) (hl : Len ts.length) (hn : ∀ i, i < ts.length → Len (gt7 ts i).xs.length) (K : AV → Hp → Nat → Prop)
    (hK : K (.ag [.ls 2 0 3 ts.length, iv n, iv g, iv c]) (hls [(1, [.ls 2 0 3 ts.length, iv n, iv g, iv c]), (2, tcs ts)]) 3) : CallM Tryz.prog 24 emp 0 [tkA ts n g c] K := by
  have kf := f_CopyTransfers ts hl hn
  unfold tkA at *
  refine call_in evOk [1, 2, 5] Tryz.func24 rfl Tryz.call24 ?_
  have e4 : ∀ a b c d a' b' c' d' : AV, splice [a, b, c, d] 0 [a', b', c', d'] = [a', b', c', d'] := fun _ _ _ _ _ _ _ _ => rfl
  have e5 : ∀ a b c d a' : AV, splice [a, b, c, d] 0 [a'] = [a', b, c, d] := fun _ _ _ _ _ => rfl
  have e6 : ∀ a b c d : AV, List.take 4 [a, b, c, d] = [a, b, c, d] := fun _ _ _ _ => rfl
  repeat' first
   | refine v_seq ?_ | refine v_block ?_ | refine v_ret ?_ | refine v_skip ?_ | (refine v_exit ?_; repeat' first | refine xB_eq ?_ | refine xB_ne rfl ?_)
   | ((first | refine rgA fun K hK => ?_ | refine rgB rfl fun K hK => ?_ | refine rgC rfl fun K hK => ?_); simp only [go_sem,simprocAttr,entryFr,hset_at,hset_hset,e4,e5,e6])
   | (simp (disch := first | omega | rfl | (simp only [lnn]; omega)) only [spl])
   | (refine hK _ ?_; clear hK K)
   | (refine gdB_intro (fun h => ?_) (fun h => ?_) <;> simp only [go_sem,simprocAttr,h,entryFr,hset_at,hset_hset,e4,e5,e6] <;> (have h' := h; try simp only [bl] at h'))
   | (refine v_cond rfl (fun h => ?_) (fun h => ?_) <;> first | (exact Bool.noConfusion h) | (have h' := h; try simp only [bl] at h'))
   | (refine r_ret ?_; simp only [resL, resA, Tryz.f24, lk_cons', lk_nil', Nat.reduceBEq]; first | exact ⟨rfl, Sb.nil _, rfl⟩ | refine ⟨rfl, sbt ?_, rfl⟩ | refine ⟨rfl, Sb.of_eq ?_, rfl⟩)
   | (refine And.intro (by first | exact True.intro | omega | rfl | exact Nat.le_of_ble_eq_true rfl | (simp only [lnn]; omega) | exact List.forall_mem_nil _ | (refine List.forall_mem_cons.2 ⟨⟨_, rfl⟩, ?_⟩; repeat' first | exact List.forall_mem_nil _ | refine List.forall_mem_cons.2 ⟨⟨_, rfl⟩, ?_⟩)) ?_)
   | (refine call_fresh kf (SbL.refl _) (by simp [plainL, AV.plain, tcs_plain]) ?_; simp only [cmK, go_sem,simprocAttr,hset_at,hset_hset,e4,e5,e6])
   | fail
  refine ⟨⟨[(2, .lp 1 0)], hls [(1, [.ls 2 0 3 ts.length, iv n, iv g, iv c]), (2, tcs ts)], 3, (8, 0, 0)⟩, ?_, ?_⟩
  · exact ent_rows [(1, [.ls 2 0 3 ts.length, iv n, iv g, iv c]), (2, tcs ts)] (by (repeat' first | exact trivial | refine ⟨?_, ?_⟩ | rfl | (refine congrArg (fun z => some (AV.v (Value.int .i64 z))) ?_; omega))) rfl ⟨⟨by simp [hset'], by (first | omega | (dsimp only; omega))⟩, ⟨by simp [hset'], by (first | omega | (dsimp only; omega))⟩, True.intro⟩ (Nat.le_refl _)
  · simp only [resL, resA, Tryz.f24, go_sem,simprocAttr,hset_at,hset_hset,hls]
    exact hK
theorem c_result (ts : List Tf) (n g c : Int) (N G : Nat) (l : List ByteArray) (hT : TkOk ts n g c N G) (hl : Len l.length) (hD : Pure Tryz.prog 93 [tkA ts n g c] (.tu [tkX ts n g c G N, iv 0])) (he : cErr ts G N l = 0) :
    Pure Tryz.prog 78 [tkA ts n g c, ssl l] (.tu [isl (jTo (plTo ts g (cIxs ts l N) N) (ts.map Tf.xs) n.toNat), iv 0]) := by
  have h6 := hT.ok.n6
  have hL := tcs_len ts
  have hlt : Len ts.length := by unfold Len; omega
  have hlx : ∀ i, i < ts.length → Len (gt7 ts i).xs.length := fun i hi => by
    have := hT.ok.len i hi
    unfold Len; omega
  have kcp := c_CopyTask ts n g c hlt hlx
  have kct := c_CopyTexts l hl
  obtain ⟨hlN, hall⟩ := cErr_zero he
  have kpo := c_PlanOk ts n g c N G l hT hl hD he (fun k hk => by
    obtain ⟨a1, a2, _, _⟩ := cEr_ok (hall k hk)
    omega)
  obtain ⟨hj0, _⟩ := jn_pl hT he
  have hK20 := hT.K20
  have hpl := plTo_len ts g (cIxs ts l N) N
  obtain ⟨P, hP⟩ : ∃ P, P = plTo ts g (cIxs ts l N) N := ⟨_, rfl⟩
  rw [← hP] at hj0 kpo hpl ⊢
  obtain ⟨ss, hss⟩ : ∃ ss, ss = ts.map Tf.xs := ⟨_, rfl⟩
  have hsl : ss.length = ts.length := by rw [hss, List.length_map]
  have hsg : ∀ i, i < ts.length → gS ss i = (gt7 ts i).xs := fun i hi => by rw [hss]; simp [gS, gt7, hi]
  rw [← hss] at hj0 ⊢
  have kj := c_Joined n P ss (by unfold Len; omega) (by rw [hsl]; exact hlt) (fun i hi => by rw [hsg i (by omega)]; exact hlx i (by omega))
  rw [show jnL n P ss = jTo P ss n.toNat by unfold jnL; rw [hj0]; rfl, hj0] at kj
  have n0 : ((0 : Nat) : Int) = 0 := rfl
  have t2 : ∀ a b : AV, List.take 2 [a, b] = [a, b] := fun _ _ => rfl
  have e2 : ∀ a b c d : AV, splice [a, b] 0 [c, d] = [c, d] := fun _ _ _ _ => rfl
  generalize jTo P ss n.toNat = J at *
  unfold tkA at kcp kpo ⊢
  refine p_intro evOk [6, 8] Tryz.func78 rfl Tryz.call78 ?_
  repeat' first
   | refine v_seq ?_ | refine v_block ?_ | refine v_ret ?_ | refine v_skip ?_ | (refine v_exit ?_; repeat' first | refine xB_eq ?_ | refine xB_ne rfl ?_)
   | ((first | refine rgA fun K hK => ?_ | refine rgB rfl fun K hK => ?_ | refine rgC rfl fun K hK => ?_); simp only [go_sem,simprocAttr,n0,t2,e2,bne_self_eq_false,hset_at,hset_hset])
   | (simp (disch := first | omega | rfl | (simp only [lnn]; omega)) only [spl])
   | (refine hK _ ?_; clear hK K)
   | (refine gdB_intro (fun h => ?_) (fun h => ?_) <;> simp only [go_sem,simprocAttr,h,n0,t2,e2,bne_self_eq_false,hset_at,hset_hset] <;> (have h' := h; try simp only [bl] at h'))
   | (refine v_cond rfl (fun h => ?_) (fun h => ?_) <;> first | (exact Bool.noConfusion h) | (have h' := h; try simp only [bl] at h'))
   | (refine r_ret ?_; simp only [resL, resA, Tryz.f78, lk_cons', lk_nil', Nat.reduceBEq]; first | exact ⟨rfl, Sb.nil _, rfl⟩ | refine ⟨rfl, sbt ?_, rfl⟩ | refine ⟨rfl, Sb.of_eq ?_, rfl⟩)
   | (refine And.intro (by first | exact True.intro | omega | rfl | exact Nat.le_of_ble_eq_true rfl | (simp only [lnn]; omega) | exact List.forall_mem_nil _ | (refine List.forall_mem_cons.2 ⟨⟨_, rfl⟩, ?_⟩; repeat' first | exact List.forall_mem_nil _ | refine List.forall_mem_cons.2 ⟨⟨_, rfl⟩, ?_⟩)) ?_)
   | ((first | refine call_pure' (kcp) rfl ?_ | refine call_pure' (kct) rfl ?_ | refine call_pure' (kpo) rfl ?_); simp only [go_sem,simprocAttr,n0,t2,e2,bne_self_eq_false,hset_at,hset_hset])
   | fail
  refine v_loop (T := Nat × Nat × Nat) (fun x => ⟨[(2, .pt [tsl ts, iv n, iv g, iv c] 0), (6, .lp 0 0), (8, .ls x.2.1 0 1 x.1), (9, iv x.1)], hls [(0, [iv n, plS P]), (x.2.1, lsC (ss.take x.1))], x.2.2, (43, 0, 0)⟩) (fun x => x.1 ≤ ts.length ∧ 1 ≤ x.2.1 ∧ x.2.1 < x.2.2) (fun x => ts.length - x.1) (0, 1, 2) ⟨by (first | omega | (dsimp only; omega)), by (first | omega | (dsimp only; omega)), by (first | omega | (dsimp only; omega))⟩ ?_ ?_
  · exact ent_rows [(0, [iv n, plS P]), (1, lsC (ss.take 0))] (by (repeat' first | exact trivial | refine ⟨?_, ?_⟩ | rfl | (refine congrArg (fun z => some (AV.v (Value.int .i64 z))) ?_; omega))) rfl ⟨⟨by simp [hset', hls], by (first | omega | (dsimp only; omega))⟩, ⟨by simp [hset', hls, lsC], by (first | omega | (dsimp only; omega))⟩, True.intro⟩ (Nat.le_refl _)
  rintro ⟨i, R, X⟩ ⟨hi, hR, hRX⟩
  dsimp only at hi hR hRX ⊢
  have hml : (lsC (ss.take i)).length = i := by rw [lsC_len, List.length_take, Nat.min_eq_left (by omega)]
  have htk : List.take i (lsC (ss.take i)) = lsC (ss.take i) := List.take_of_length_le (by rw [hml]; exact Nat.le_refl _)
  have r0 : (R == 0) = false := beq_ne (by omega)
  have r1 : (0 == R) = false := beq_ne (by omega)
  have x0 : (X == 0) = false := beq_ne (by omega)
  have x1 : (0 == X) = false := beq_ne (by omega)
  have x2 : (X == R) = false := beq_ne (by omega)
  have x3 : (R == X) = false := beq_ne (by omega)
  by_cases hi2 : i < ts.length
  · have hd : decide ((i : Int) < ts.length) = true := decide_eq_true (by omega)
    have t3 : (tcs ts)[((i : Nat) : Int).toNat * 3 + 2]? = some (isl (gt7 ts i).xs) := tcs_2 hi2
    have kc := c_CopyInts (gt7 ts i).xs (hlx i hi2)
    have hsu : lsC (ss.take i) ++ [isl (gt7 ts i).xs] = lsC (ss.take (i + 1)) := by
      rw [← hsg i hi2]
      unfold lsC gS
      rw [List.take_add_one, List.map_append, List.getElem?_eq_getElem (by omega)]
      simp [show i < ss.length by omega]
    have hon := lsC_one (ss.take i)
    have hon2 : ∀ x : List Int, oneL [AV.sl 1 x.length (ints x)] = true := fun _ => rfl
    repeat' first
     | refine v_seq ?_ | refine v_block ?_ | refine v_ret ?_ | refine v_skip ?_ | (refine v_exit ?_; repeat' first | refine xB_eq ?_ | refine xB_ne rfl ?_)
     | ((first | refine rgA fun K hK => ?_ | refine rgB rfl fun K hK => ?_ | refine rgC rfl fun K hK => ?_); simp only [go_sem,simprocAttr,hon,hon2,hd,n0,hL,hls,hml,htk,t3,r0,r1,x0,x1,x2,x3,hset_at,hset_hset])
     | (simp (disch := first | omega | rfl | (simp only [lnn]; omega)) only [spl])
     | (refine hK _ ?_; clear hK K)
     | (refine gdB_intro (fun h => ?_) (fun h => ?_) <;> simp only [go_sem,simprocAttr,h,hon,hon2,hd,n0,hL,hls,hml,htk,t3,r0,r1,x0,x1,x2,x3,hset_at,hset_hset] <;> (have h' := h; try simp only [bl] at h'))
     | (refine v_cond rfl (fun h => ?_) (fun h => ?_) <;> first | (exact Bool.noConfusion h) | (have h' := h; try simp only [bl] at h'))
     | (refine r_ret ?_; simp only [resL, resA, Tryz.f78, lk_cons', lk_nil', Nat.reduceBEq]; first | exact ⟨rfl, Sb.nil _, rfl⟩ | refine ⟨rfl, sbt ?_, rfl⟩ | refine ⟨rfl, Sb.of_eq ?_, rfl⟩)
     | (refine And.intro (by first | exact True.intro | omega | rfl | exact Nat.le_of_ble_eq_true rfl | (simp only [lnn]; omega) | exact List.forall_mem_nil _ | (refine List.forall_mem_cons.2 ⟨⟨_, rfl⟩, ?_⟩; repeat' first | exact List.forall_mem_nil _ | refine List.forall_mem_cons.2 ⟨⟨_, rfl⟩, ?_⟩)) ?_)
     | ((first | refine call_pure' (kc) rfl ?_); simp only [go_sem,simprocAttr,hon,hon2,hd,n0,hL,hls,hml,htk,t3,r0,r1,x0,x1,x2,x3,hset_at,hset_hset])
     | (simp only [go_sem,simprocAttr,t3,hls,hml,htk,hset_at,hset_hset])
     | fail
    refine ⟨(i + 1, X, X + 1), ?_, ⟨by (first | omega | (dsimp only; omega)), by (first | omega | (dsimp only; omega)), by (first | omega | (dsimp only; omega))⟩, by (first | omega | (dsimp only; omega))⟩
    dsimp only
    rw [← hsu]
    exact ent_rows [(0, [iv n, plS P]), (X, lsC (ss.take i) ++ [isl (gt7 ts i).xs])] (by (repeat' first | exact trivial | refine ⟨?_, ?_⟩ | rfl | (refine congrArg (fun z => some (AV.v (Value.int .i64 z))) ?_; omega))) rfl ⟨⟨by simp [hset', hls, r0, r1, x0, x1], by (first | omega | (dsimp only; omega))⟩, ⟨by simp [hset', htk, isl], by (first | omega | (dsimp only; omega))⟩, True.intro⟩ (Nat.le_refl _)
  · obtain rfl : i = ts.length := by omega
    have hd : decide ((ts.length : Int) < ts.length) = false := decide_eq_false (by omega)
    have hsa : ss.take ts.length = ss := by rw [← hsl]; exact List.take_length
    rw [hsa] at hml htk ⊢
    refine vc_ent ((ent_freezeH R (c := lsC ss) (by simp [hls, hset', r0, r1]) (lsC_plain _)).trans (ent_rows (fr := [(2, .pt [tsl ts, iv n, iv g, iv c] 0), (6, .lp 0 0), (8, lsA ss), (9, iv ts.length)]) [(0, [iv n, plS P])] ?_ rfl ?_ (Nat.le_refl _))) ?_
    · have hle : 0 + ts.length * 1 ≤ (lsC ss).length := by rw [hml]; omega
      have htk1 : List.take (ts.length * 1) (List.drop 0 (lsC ss)) = lsC ss := List.take_of_length_le (by rw [List.drop_zero, hml]; omega)
      simp only [fzF, AV.fz, lsA, iv, beq_self_eq_true, cond_true, cond_false, r1, r0, if_pos hle, htk1, hsl]
      (repeat' first | exact trivial | refine ⟨?_, ?_⟩ | rfl)
    · refine ⟨⟨?_, by (first | omega | (dsimp only; omega))⟩, True.intro⟩
      simp [hfz, hls, hset', r0, r1, AV.fz, plS]
    repeat' first
     | refine v_seq ?_ | refine v_block ?_ | refine v_ret ?_ | refine v_skip ?_ | (refine v_exit ?_; repeat' first | refine xB_eq ?_ | refine xB_ne rfl ?_)
     | ((first | refine rgA fun K hK => ?_ | refine rgB rfl fun K hK => ?_ | refine rgC rfl fun K hK => ?_); simp only [go_sem,simprocAttr,hd,n0,hL,hls,hset_at,hset_hset])
     | (simp (disch := first | omega | rfl | (simp only [lnn]; omega)) only [spl])
     | (refine hK _ ?_; clear hK K)
     | (refine gdB_intro (fun h => ?_) (fun h => ?_) <;> simp only [go_sem,simprocAttr,h,hd,n0,hL,hls,hset_at,hset_hset] <;> (have h' := h; try simp only [bl] at h'))
     | (refine v_cond rfl (fun h => ?_) (fun h => ?_) <;> first | (exact Bool.noConfusion h) | (have h' := h; try simp only [bl] at h'))
     | (refine r_ret ?_; simp only [resL, resA, Tryz.f78, lk_cons', lk_nil', Nat.reduceBEq]; first | exact ⟨rfl, Sb.nil _, rfl⟩ | refine ⟨rfl, sbt ?_, rfl⟩ | refine ⟨rfl, Sb.of_eq ?_, rfl⟩)
     | (refine And.intro (by first | exact True.intro | omega | rfl | exact Nat.le_of_ble_eq_true rfl | (simp only [lnn]; omega) | exact List.forall_mem_nil _ | (refine List.forall_mem_cons.2 ⟨⟨_, rfl⟩, ?_⟩; repeat' first | exact List.forall_mem_nil _ | refine List.forall_mem_cons.2 ⟨⟨_, rfl⟩, ?_⟩)) ?_)
     | ((first | refine call_pure' (kj) rfl ?_); simp only [go_sem,simprocAttr,hd,n0,hL,hls,hset_at,hset_hset])
     | fail
    all_goals rfl
end Go.Proofs.YtabmhfmglhjmjaaGreatDoor

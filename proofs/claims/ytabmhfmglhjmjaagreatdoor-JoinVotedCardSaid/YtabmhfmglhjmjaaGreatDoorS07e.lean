import Derived.Test.YtabmhfmglhjmjaaGreatDoorS07c
set_option linter.unusedVariables false
set_option linter.unusedSimpArgs false
/-! Transfers by name, and what is damaged (chapter 7). -/
set_option linter.unusedSectionVars false
namespace Go.Proofs.YtabmhfmglhjmjaaGreatDoor
open Go.Ab
attribute [local instance] drS

/-- Lists whose names ascend. -/
def ByNm (ys : List Tf) : Prop := ys.Pairwise fun a b => nmLt a.nm b.nm = true
def byN (ts : List Tf) : List Tf := ts.mergeSort fun a b => !nmLt b.nm a.nm
theorem byN_perm (ts : List Tf) : (byN ts).Perm ts := List.mergeSort_perm _ _
theorem byN_len (ts : List Tf) : (byN ts).length = ts.length := (byN_perm ts).length_eq
def NmU (ts : List Tf) : Prop := ts.Pairwise fun a b => a.nm ≠ b.nm
theorem TfOk.nmU {ts : List Tf} (h : TfOk ts) : NmU ts := by
  unfold NmU
  rw [List.pairwise_iff_getElem]
  intro i j hi hj hij
  have := h.uniq j i hij hj
  rwa [gt7_eq hi, gt7_eq hj] at this
theorem nmU_perm {xs ys : List Tf} (hp : xs.Perm ys) (h : NmU ys) : NmU xs := (hp.pairwise_iff (fun {a b} h => h.symm)).2 h
theorem byNm_of {ys : List Tf} (hu : NmU ys) (h : ∀ (i j : Nat) x y, i < j → ys[i]? = some x → ys[j]? = some y → nmLt y.nm x.nm = false) : ByNm ys := by
  unfold ByNm NmU at *
  rw [List.pairwise_iff_getElem] at hu ⊢
  intro i j hi hj hij
  have h1 := h i j _ _ hij (List.getElem?_eq_getElem hi) (List.getElem?_eq_getElem hj)
  have h2 := hu i j hi hj hij
  cases h3 : nmLt ys[i].nm ys[j].nm
  · exact absurd (nmLt_tri h3 h1) h2
  · rfl
theorem byN_sorted {ts : List Tf} (h : NmU ts) : ByNm (byN ts) := by
  have h1 : (byN ts).Pairwise fun a b => (!nmLt b.nm a.nm) = true := List.pairwise_mergeSort (fun a b c h1 h2 => by
    simp only [Bool.not_eq_true'] at h1 h2 ⊢
    exact nmLt_ntrans h2 h1) (fun a b => by
    cases h1 : nmLt b.nm a.nm
    · rfl
    · rw [nmLt_asymm h1]; rfl) ts
  refine byNm_of (nmU_perm (byN_perm ts) h) fun i j x y hij hx hy => ?_
  rw [List.pairwise_iff_getElem] at h1
  obtain ⟨hi, rfl⟩ := List.getElem?_eq_some_iff.1 hx
  obtain ⟨hj, rfl⟩ := List.getElem?_eq_some_iff.1 hy
  have := h1 i j hi hj hij
  simpa using this
theorem byNm_eq {xs ys : List Tf} (hp : xs.Perm ys) (hx : ByNm xs) (hy : ByNm ys) : xs = ys := by
  unfold ByNm at hx hy
  refine List.Perm.eq_of_pairwise (fun a b _ _ h1 h2 => ?_) hx hy hp
  rw [nmLt_asymm h1] at h2
  cases h2
theorem byN_eq {ts ys : List Tf} (h : NmU ts) (hp : ys.Perm ts) (hy : ByNm ys) : ys = byN ts := byNm_eq (hp.trans (byN_perm ts).symm) hy (byN_sorted h)
theorem byN_mem {ts : List Tf} {t : Tf} : t ∈ byN ts ↔ t ∈ ts := (byN_perm ts).mem_iff

/-! ### the reference: the first name of those that are left -/
def selN (ts : List Tf) (done : Nat → Bool) : Nat → Int
  | 0 => -1
  | i + 1 => bif !done i && (decide (selN ts done i < 0) || nmLt (gt7 ts i).nm (gt7 ts (selN ts done i).toNat).nm) then (i : Int) else selN ts done i
theorem selN_ok {ts : List Tf} {done : Nat → Bool} : ∀ n : Nat, (selN ts done n = -1 ∧ ∀ i, i < n → done i = true) ∨ ∃ i : Nat, selN ts done n = i ∧ i < n ∧ done i = false ∧ ∀ j, j < n → done j = false → nmLt (gt7 ts j).nm (gt7 ts i).nm = false
  | 0 => .inl ⟨rfl, fun i hi => by omega⟩
  | n + 1 => by
    rw [selN]
    cases hd : done n
    · simp only [Bool.not_false, Bool.true_and]
      rcases selN_ok (ts := ts) (done := done) n with ⟨h1, h2⟩ | ⟨i, h1, h2, h3, h4⟩
      · rw [h1]
        refine .inr ⟨n, rfl, by omega, hd, fun j hj hjd => ?_⟩
        by_cases e : j = n
        · subst e; exact nmLt_irrefl _
        · rw [h2 j (by omega)] at hjd; cases hjd
      · rw [h1, show decide ((i : Int) < 0) = false from decide_eq_false (by omega), Bool.false_or, Int.toNat_natCast]
        cases hl : nmLt (gt7 ts n).nm (gt7 ts i).nm
        · refine .inr ⟨i, rfl, by omega, h3, fun j hj hjd => ?_⟩
          by_cases e : j = n
          · subst e; exact hl
          · exact h4 j (by omega) hjd
        · refine .inr ⟨n, rfl, by omega, hd, fun j hj hjd => ?_⟩
          by_cases e : j = n
          · subst e; exact nmLt_irrefl _
          · cases hx : nmLt (gt7 ts j).nm (gt7 ts n).nm
            · rfl
            · have := nmLt_trans hx hl
              rw [h4 j (by omega) hjd] at this
              cases this
    · simp only [Bool.not_true, Bool.false_and, cond_false]
      rcases selN_ok (ts := ts) (done := done) n with ⟨h1, h2⟩ | ⟨i, h1, h2, h3, h4⟩
      · exact .inl ⟨h1, fun i hi => by
          by_cases e : i = n
          · subst e; exact hd
          · exact h2 i (by omega)⟩
      · refine .inr ⟨i, h1, by omega, h3, fun j hj hjd => ?_⟩
        by_cases e : j = n
        · subst e; rw [hd] at hjd; cases hjd
        · exact h4 j (by omega) hjd
/-- What is done ahead of round n: the first n names. -/
structure DoneOk (ts : List Tf) (done : Nat → Bool) (n : Nat) : Prop where
  mem : ∀ i, i < ts.length → (done i = true ↔ gt7 ts i ∈ (byN ts).take n)
theorem take_succ_mem {α : Type} {l : List α} {n : Nat} (hn : n < l.length) {x : α} : x ∈ l.take (n + 1) ↔ x ∈ l.take n ∨ x = l[n] := by
  rw [List.take_succ_eq_append_getElem hn, List.mem_append, List.mem_singleton]
theorem sel_next {ts : List Tf} (h : TfOk ts) {done : Nat → Bool} {n : Nat} (hn : n < ts.length) (hd : DoneOk ts done n) :
    ∃ i : Nat, selN ts done ts.length = i ∧ i < ts.length ∧ gt7 ts i = (byN ts)[n]'(by rw [byN_len]; exact hn) ∧ DoneOk ts (fun j => if j = i then true else done j) (n + 1) := by
  have hu := h.nmU
  have hs := byN_sorted hu
  have hl : n < (byN ts).length := by rw [byN_len]; exact hn
  unfold ByNm at hs
  rw [List.pairwise_iff_getElem] at hs
  obtain ⟨q, hq, hqe⟩ : ∃ q, q < ts.length ∧ gt7 ts q = (byN ts)[n] := by
    have := byN_mem.1 (List.getElem_mem hl)
    obtain ⟨q, hq, he⟩ := List.getElem_of_mem this
    exact ⟨q, hq, by rw [gt7_eq hq, he]⟩
  have hqd : done q = false := by
    cases hx : done q
    · rfl
    · have := (hd.mem q hq).1 hx
      rw [hqe] at this
      obtain ⟨m, hm, he⟩ := List.getElem_of_mem this
      rw [List.length_take] at hm
      rw [List.getElem_take] at he
      have := hs m n (by omega) hl (by omega)
      rw [he, nmLt_irrefl] at this
      cases this
  rcases selN_ok (ts := ts) (done := done) ts.length with ⟨_, h2⟩ | ⟨i, h1, h2, h3, h4⟩
  · rw [h2 q hq] at hqd; cases hqd
  · have hin : gt7 ts i ∈ byN ts := byN_mem.2 (by rw [gt7_eq h2]; exact List.getElem_mem h2)
    obtain ⟨m, hm, he⟩ := List.getElem_of_mem hin
    have hmn : ¬ m < n := fun hlt => by
      have : gt7 ts i ∈ (byN ts).take n := by rw [← he]; exact List.mem_take_iff_getElem.2 ⟨m, by omega, rfl⟩
      rw [(hd.mem i h2).2 this] at h3; cases h3
    have hie : gt7 ts i = (byN ts)[n] := by
      by_cases e : m = n
      · subst e; exact he.symm
      · have a1 := hs n m hl hm (by omega)
        have a2 := h4 q hq hqd
        rw [hqe, ← he, a1] at a2
        cases a2
    refine ⟨i, h1, h2, hie, ⟨fun j hj => ?_⟩⟩
    rw [take_succ_mem hl, ← hd.mem j hj]
    by_cases e : j = i
    · subst e; simp [hie]
    · rw [if_neg e]
      constructor
      · exact .inl
      · rintro (hx | hx)
        · exact hx
        · exfalso
          rw [← hie] at hx
          rcases Nat.lt_or_gt_of_ne e with h5 | h5
          · exact h.uniq i j h5 h2 (by rw [hx])
          · exact h.uniq j i h5 hj (by rw [hx])
theorem done_start (ts : List Tf) : DoneOk ts (fun _ => false) 0 := ⟨fun i hi => by simp⟩

/-! ### damages -/
structure Dg where
  nm : ByteArray
  lo : Int
  hi : Int
def Dg.cells (d : Dg) : List AV := [.v (.string d.nm), iv d.lo, iv d.hi]
def dcs (l : List Dg) : List AV := l.flatMap Dg.cells
theorem dcs_len (l : List Dg) : (dcs l).length = l.length * 3 := fm_len (c := Dg.cells) (fun _ => rfl) l
theorem dcs_plain : ∀ l : List Dg, plainL (dcs l) = true
  | [] => rfl
  | d :: l => by
    have h := dcs_plain l
    unfold dcs at h ⊢
    rw [List.flatMap_cons]
    simp only [Dg.cells, List.cons_append, List.nil_append, plainL, AV.plain, iv, h, Bool.and_self]
theorem dcs_snoc (l : List Dg) (d : Dg) : dcs (l ++ [d]) = dcs l ++ d.cells := by simp [dcs]
def gd7 (l : List Dg) (i : Nat) : Dg := l.getD i ⟨ByteArray.empty, 0, 0⟩
theorem gd7_eq {l : List Dg} {i : Nat} (h : i < l.length) : gd7 l i = l[i] := by simp [gd7, h]
theorem dcs_at {l : List Dg} {i : Nat} (h : i < l.length) : ((dcs l).drop (i * 3)).take 3 = [.v (.string (gd7 l i).nm), iv (gd7 l i).lo, iv (gd7 l i).hi] := by
  rw [gd7_eq h]; exact fm_at (c := Dg.cells) (fun _ => rfl) h
theorem dcs_0 {l : List Dg} {i : Nat} (h : i < l.length) : (dcs l)[i * 3]? = some (.v (.string (gd7 l i).nm)) := by
  rw [gd7_eq h]; exact fm_get (c := Dg.cells) (k := 3) (fun _ => rfl) h (j := 0) (by omega)
theorem dcs_1 {l : List Dg} {i : Nat} (h : i < l.length) : (dcs l)[i * 3 + 1]? = some (iv (gd7 l i).lo) := by
  rw [gd7_eq h]; exact fm_get (c := Dg.cells) (k := 3) (fun _ => rfl) h (j := 1) (by omega)
theorem dcs_2 {l : List Dg} {i : Nat} (h : i < l.length) : (dcs l)[i * 3 + 2]? = some (iv (gd7 l i).hi) := by
  rw [gd7_eq h]; exact fm_get (c := Dg.cells) (k := 3) (fun _ => rfl) h (j := 2) (by omega)

theorem rev_ind {α : Type} {P : List α → Prop} (h0 : P []) (h1 : ∀ l t, P l → P (l ++ [t])) (l : List α) : P l := by
  have key : ∀ m : List α, P m.reverse := fun m => by
    induction m with
    | nil => exact h0
    | cons x m ih => rw [List.reverse_cons]; exact h1 _ _ ih
  have := key l.reverse
  rwa [List.reverse_reverse] at this
/-- One position more that is damaged; the last range first. -/
def stepD (nm : ByteArray) (p : Int) : List Dg → List Dg
  | [] => [⟨nm, p, p⟩]
  | r :: l => bif nmEq r.nm nm && r.hi == p - 1 then ⟨r.nm, r.lo, p⟩ :: l else ⟨nm, p, p⟩ :: r :: l
def badAt (t : Tf) (ms : List Int) (limit : Int) (p : Nat) : Bool := hasAt t (p : Nat) && !within (smp t (p : Nat) - gi ms (p : Nat)) (-limit) limit
def dmgTo (t : Tf) (ms : List Int) (limit : Int) (R : List Dg) : Nat → List Dg
  | 0 => R
  | p + 1 => bif badAt t ms limit p then stepD t.nm (p : Nat) (dmgTo t ms limit R p) else dmgTo t ms limit R p
def dmgR (ms : List Int) (limit : Int) (n : Nat) (order : List Tf) : List Dg := order.foldl (fun R t => dmgTo t ms limit R n) []
def dmgs (ts : List Tf) (limit : Int) (n : Nat) : List Dg := (dmgR (meds ts n) limit n (byN ts)).reverse
theorem dmgR_snoc (ms : List Int) (limit : Int) (n : Nat) (l : List Tf) (t : Tf) : dmgR ms limit n (l ++ [t]) = dmgTo t ms limit (dmgR ms limit n l) n := by simp [dmgR]
theorem stepD_len (nm : ByteArray) (p : Int) (R : List Dg) : (stepD nm p R).length ≤ R.length + 1 := by
  cases R with
  | nil => simp [stepD]
  | cons r l => rw [stepD]; cases nmEq r.nm nm && r.hi == p - 1 <;> simp
theorem dmgTo_len (t : Tf) (ms : List Int) (limit : Int) (R : List Dg) : ∀ n, (dmgTo t ms limit R n).length ≤ R.length + n
  | 0 => by simp [dmgTo]
  | n + 1 => by
    have ih := dmgTo_len t ms limit R n
    have := stepD_len t.nm (n : Nat) (dmgTo t ms limit R n)
    rw [dmgTo]
    cases badAt t ms limit n
    · rw [cond_false]; omega
    · rw [cond_true]; omega
theorem dmgR_len (ms : List Int) (limit : Int) (n : Nat) (l : List Tf) : (dmgR ms limit n l).length ≤ l.length * n := by
  refine rev_ind (P := fun l => (dmgR ms limit n l).length ≤ l.length * n) ?_ (fun l t ih => ?_) l
  · simp [dmgR]
  · skip
    have := dmgTo_len t ms limit (dmgR ms limit n l) n
    rw [dmgR_snoc, List.length_append, List.length_singleton, Nat.succ_mul]
    omega
/-- All entries so far bear names of some list; their ends lie before p where the name is nm. -/
def DgIn (R : List Dg) (P : Dg → Prop) : Prop := ∀ d ∈ R, P d
theorem stepD_in {P : Dg → Prop} {nm : ByteArray} {p : Int} {R : List Dg} (h : ∀ d ∈ R, P d) (h1 : P ⟨nm, p, p⟩) (h2 : ∀ lo hi, P ⟨nm, lo, hi⟩ → P ⟨nm, lo, p⟩) : ∀ d ∈ stepD nm p R, P d := by
  cases R with
  | nil => intro d hd; simp [stepD] at hd; subst hd; exact h1
  | cons r l =>
    rw [stepD]
    cases hc : nmEq r.nm nm && r.hi == p - 1
    · intro d hd
      rw [cond_false] at hd
      rcases List.mem_cons.1 hd with rfl | hd
      · exact h1
      · exact h d hd
    · intro d hd
      rw [cond_true] at hd
      simp only [Bool.and_eq_true] at hc
      have e := nmEq_iff.1 hc.1
      rcases List.mem_cons.1 hd with rfl | hd
      · have := h r (by simp)
        obtain ⟨a, b, c⟩ := r
        dsimp only at e
        subst e
        exact h2 b c this
      · exact h d (by simp [hd])
theorem dmgTo_in {P : Dg → Prop} {t : Tf} {ms : List Int} {limit : Int} {R : List Dg} (h : ∀ d ∈ R, P d) : ∀ n : Nat, (∀ p : Nat, p < n → P ⟨t.nm, p, p⟩) → (∀ (p : Nat) lo hi, p < n → P ⟨t.nm, lo, hi⟩ → P ⟨t.nm, lo, p⟩) → ∀ d ∈ dmgTo t ms limit R n, P d
  | 0, _, _ => h
  | n + 1, h1, h2 => by
    have ih := dmgTo_in (t := t) (ms := ms) (limit := limit) h n (fun p hp => h1 p (by omega)) (fun p lo hi hp => h2 p lo hi (by omega))
    rw [dmgTo]
    cases badAt t ms limit n
    · exact ih
    · exact stepD_in ih (h1 n (by omega)) fun lo hi => h2 n lo hi (by omega)
theorem dmgR_names (ms : List Int) (limit : Int) (n : Nat) (l : List Tf) : ∀ d ∈ dmgR ms limit n l, ∃ t ∈ l, t.nm = d.nm := by
  refine rev_ind (P := fun l => ∀ d ∈ dmgR ms limit n l, ∃ t ∈ l, t.nm = d.nm) ?_ (fun l t ih => ?_) l
  · intro d hd; simp [dmgR] at hd
  · skip
    rw [dmgR_snoc]
    exact dmgTo_in (P := fun d => ∃ t' ∈ l ++ [t], t'.nm = d.nm) (fun d hd => by
      obtain ⟨t', h1, h2⟩ := ih d hd
      exact ⟨t', by simp [h1], h2⟩) n (fun p _ => ⟨t, by simp, rfl⟩) (fun p lo hi _ h => h)
end Go.Proofs.YtabmhfmglhjmjaaGreatDoor

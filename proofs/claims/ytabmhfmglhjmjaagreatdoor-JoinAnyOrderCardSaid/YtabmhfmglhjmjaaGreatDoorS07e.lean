import Derived.Test.YtabmhfmglhjmjaaGreatDoorS07d
set_option linter.unusedVariables false
set_option linter.unusedSimpArgs false
set_option linter.unusedSectionVars false
namespace Go.Proofs.YtabmhfmglhjmjaaGreatDoor
open Go.Ab
attribute [local instance] drS
def ByNm (ys : List Tf) : Prop := ys.Pairwise fun a b => nmLt a.nm b.nm = true
def byN (ts : List Tf) : List Tf := ts.mergeSort fun a b => !nmLt b.nm a.nm
theorem byN_perm (ts : List Tf) : (byN ts).Perm ts := List.mergeSort_perm _ _
theorem byN_len (ts : List Tf) : (byN ts).length = ts.length := (byN_perm ts).length_eq
def NmU (ts : List Tf) : Prop := ts.Pairwise fun a b => a.nm ≠ b.nm
theorem TfOk.nmU {ts : List Tf} (h : TfOk ts) : NmU ts := by
  unfold NmU
  rw [List.pairwise_iff_getElem]
  intro i j hi hj hij
  have := h.uniq j i hij hj
  rwa [gt7_eq hi, gt7_eq hj] at this
theorem nmU_perm {xs ys : List Tf} (hp : xs.Perm ys) (h : NmU ys) : NmU xs := (hp.pairwise_iff (fun {a b} h => h.symm)).2 h
theorem byNm_of {ys : List Tf} (hu : NmU ys) (h : ∀ (i j : Nat) x y, i < j → ys[i]? = some x → ys[j]? = some y → nmLt y.nm x.nm = false) : ByNm ys := by
  unfold ByNm NmU at *
  rw [List.pairwise_iff_getElem] at hu ⊢
  intro i j hi hj hij
  have h1 := h i j _ _ hij (List.getElem?_eq_getElem hi) (List.getElem?_eq_getElem hj)
  have h2 := hu i j hi hj hij
  cases h3 : nmLt ys[i].nm ys[j].nm
  · exact absurd (nmLt_tri h3 h1) h2
  · rfl
theorem byN_sorted {ts : List Tf} (h : NmU ts) : ByNm (byN ts) := by
  have h1 : (byN ts).Pairwise fun a b => (!nmLt b.nm a.nm) = true := List.pairwise_mergeSort (fun a b c h1 h2 => by
    simp only [Bool.not_eq_true'] at h1 h2 ⊢
    exact nmLt_ntrans h2 h1) (fun a b => by
    cases h1 : nmLt b.nm a.nm
    · rfl
    · rw [nmLt_asymm h1]; rfl) ts
  refine byNm_of (nmU_perm (byN_perm ts) h) fun i j x y hij hx hy => ?_
  rw [List.pairwise_iff_getElem] at h1
  obtain ⟨hi, rfl⟩ := List.getElem?_eq_some_iff.1 hx
  obtain ⟨hj, rfl⟩ := List.getElem?_eq_some_iff.1 hy
  have := h1 i j hi hj hij
  simpa using this
theorem byNm_eq {xs ys : List Tf} (hp : xs.Perm ys) (hx : ByNm xs) (hy : ByNm ys) : xs = ys := by
  unfold ByNm at hx hy
  refine List.Perm.eq_of_pairwise (fun a b _ _ h1 h2 => ?_) hx hy hp
  rw [nmLt_asymm h1] at h2
  cases h2
theorem byN_eq {ts ys : List Tf} (h : NmU ts) (hp : ys.Perm ts) (hy : ByNm ys) : ys = byN ts := byNm_eq (hp.trans (byN_perm ts).symm) hy (byN_sorted h)
theorem byN_mem {ts : List Tf} {t : Tf} : t ∈ byN ts ↔ t ∈ ts := (byN_perm ts).mem_iff
structure DoneOk (ts : List Tf) (done : Nat → Bool) (n : Nat) : Prop where
  mem : ∀ i, i < ts.length → (done i = true ↔ gt7 ts i ∈ (byN ts).take n)
structure Dg where
  nm : ByteArray
  lo : Int
  hi : Int
def Dg.cells (d : Dg) : List AV := [.v (.string d.nm), iv d.lo, iv d.hi]
def dcs (l : List Dg) : List AV := l.flatMap Dg.cells
theorem dcs_len (l : List Dg) : (dcs l).length = l.length * 3 := fm_len (c := Dg.cells) (fun _ => rfl) l
theorem dcs_plain : ∀ l : List Dg, plainL (dcs l) = true
  | [] => rfl
  | d :: l => by
    have h := dcs_plain l
    unfold dcs at h ⊢
    rw [List.flatMap_cons]
    simp only [Dg.cells, List.cons_append, List.nil_append, plainL, AV.plain, iv, h, Bool.and_self]
def gd7 (l : List Dg) (i : Nat) : Dg := l.getD i ⟨ByteArray.empty, 0, 0⟩
theorem gd7_eq {l : List Dg} {i : Nat} (h : i < l.length) : gd7 l i = l[i] := by simp [gd7, h]
theorem dcs_at {l : List Dg} {i : Nat} (h : i < l.length) : ((dcs l).drop (i * 3)).take 3 = [.v (.string (gd7 l i).nm), iv (gd7 l i).lo, iv (gd7 l i).hi] := by
  rw [gd7_eq h]; exact fm_at (c := Dg.cells) (fun _ => rfl) h
theorem rev_ind {α : Type} {P : List α → Prop} (h0 : P []) (h1 : ∀ l t, P l → P (l ++ [t])) (l : List α) : P l := by
  have key : ∀ m : List α, P m.reverse := fun m => by
    induction m with
    | nil => exact h0
    | cons x m ih => rw [List.reverse_cons]; exact h1 _ _ ih
  have := key l.reverse
  rwa [List.reverse_reverse] at this
def stepD (nm : ByteArray) (p : Int) : List Dg → List Dg
  | [] => [⟨nm, p, p⟩]
  | r :: l => bif nmEq r.nm nm && r.hi == p - 1 then ⟨r.nm, r.lo, p⟩ :: l else ⟨nm, p, p⟩ :: r :: l
def badAt (t : Tf) (ms : List Int) (limit : Int) (p : Nat) : Bool := hasAt t (p : Nat) && !within (smp t (p : Nat) - gi ms (p : Nat)) (-limit) limit
def dmgTo (t : Tf) (ms : List Int) (limit : Int) (R : List Dg) : Nat → List Dg
  | 0 => R
  | p + 1 => bif badAt t ms limit p then stepD t.nm (p : Nat) (dmgTo t ms limit R p) else dmgTo t ms limit R p
def dmgR (ms : List Int) (limit : Int) (n : Nat) (order : List Tf) : List Dg := order.foldl (fun R t => dmgTo t ms limit R n) []
def dmgs (ts : List Tf) (limit : Int) (n : Nat) : List Dg := (dmgR (meds ts n) limit n (byN ts)).reverse
theorem dmgR_snoc (ms : List Int) (limit : Int) (n : Nat) (l : List Tf) (t : Tf) : dmgR ms limit n (l ++ [t]) = dmgTo t ms limit (dmgR ms limit n l) n := by simp [dmgR]
theorem stepD_len (nm : ByteArray) (p : Int) (R : List Dg) : (stepD nm p R).length ≤ R.length + 1 := by
  cases R with
  | nil => simp [stepD]
  | cons r l => rw [stepD]; cases nmEq r.nm nm && r.hi == p - 1 <;> simp
theorem dmgTo_len (t : Tf) (ms : List Int) (limit : Int) (R : List Dg) : ∀ n, (dmgTo t ms limit R n).length ≤ R.length + n
  | 0 => by simp [dmgTo]
  | n + 1 => by
    have ih := dmgTo_len t ms limit R n
    have := stepD_len t.nm (n : Nat) (dmgTo t ms limit R n)
    rw [dmgTo]
    cases badAt t ms limit n
    · rw [cond_false]; omega
    · rw [cond_true]; omega
theorem dmgR_len (ms : List Int) (limit : Int) (n : Nat) (l : List Tf) : (dmgR ms limit n l).length ≤ l.length * n := by
  refine rev_ind (P := fun l => (dmgR ms limit n l).length ≤ l.length * n) ?_ (fun l t ih => ?_) l
  · simp [dmgR]
  · skip
    have := dmgTo_len t ms limit (dmgR ms limit n l) n
    rw [dmgR_snoc, List.length_append, List.length_singleton, Nat.succ_mul]
    omega
end Go.Proofs.YtabmhfmglhjmjaaGreatDoor

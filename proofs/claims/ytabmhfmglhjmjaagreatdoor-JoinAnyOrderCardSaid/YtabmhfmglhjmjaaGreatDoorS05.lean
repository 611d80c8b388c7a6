/- Chapter 5: what its functions compute, in plain Lean. -/
import Derived.Test.YtabmhfmglhjmjaaGreatDoorAbC
set_option linter.unusedSimpArgs false
set_option linter.unusedVariables false
set_option linter.unusedSectionVars false
namespace Go.Proofs.YtabmhfmglhjmjaaGreatDoor
open Go.Ab
attribute [local instance] drS
def Len (n : Nat) : Prop := n ≤ 1099511627776
theorem len_lit {n : Nat} (h : Nat.ble n 1099511627776 = true) : Len n := Nat.le_of_ble_eq_true h
def within (n lo hi : Int) : Bool := decide (lo ≤ n) && decide (n ≤ hi)
def isSample (n : Int) : Bool := within n (-32767) 32767
def areSamples (xs : List Int) : Bool := xs.all isSample
def signalErr (xs : List Int) : Int := bif decide (200 < xs.length) then 8 else bif areSamples xs then 0 else 2
def sumTo (f : Nat → Int) : Nat → Int
  | 0 => 0
  | n + 1 => sumTo f n + f n
theorem gi_ext {xs ys : List Int} (h : xs.length = ys.length) (h2 : ∀ j : Nat, j < xs.length → gi xs j = gi ys j) : xs = ys := by
  refine List.ext_getElem h fun i h1 h3 => ?_
  have := h2 i h1
  simpa [gi, h1, h3] using this
theorem within_iff {n lo hi : Int} : within n lo hi = true ↔ lo ≤ n ∧ n ≤ hi := by simp [within]
theorem within_false {n lo hi : Int} : within n lo hi = false ↔ n < lo ∨ hi < n := by
  unfold within
  by_cases h1 : lo ≤ n <;> by_cases h2 : n ≤ hi <;> simp [h1, h2] <;> omega
theorem sample_gi {xs : List Int} (h : areSamples xs = true) (i : Int) : -32767 ≤ gi xs i ∧ gi xs i ≤ 32767 := by
  unfold gi
  rw [List.getD_eq_getElem?_getD]
  cases e : xs[i.toNat]? with
  | none => simp
  | some x =>
    have := List.all_eq_true.1 h x (List.mem_of_getElem? e)
    exact within_iff.1 this
theorem sumTo_bound {f : Nat → Int} {n : Nat} {c : Int} (h : ∀ i, i < n → 0 ≤ f i ∧ f i ≤ c) : 0 ≤ sumTo f n ∧ sumTo f n ≤ n * c := by
  induction n with
  | zero => simp [sumTo]
  | succ n ih =>
    have h1 := ih fun i hi => h i (by omega)
    have h2 := h n (by omega)
    simp only [sumTo]
    rw [show (((n + 1 : Nat) : Int)) * c = n * c + c by rw [Int.natCast_succ, Int.add_mul, Int.one_mul]]
    omega
theorem iv_eq {a b : Int} (h : a = b) : AV.v (.int .i64 a) = iv b := by rw [h]
theorem bv_eq {a b : Bool} (h : a = b) : AV.v (.bool a) = .v (.bool b) := by rw [h]
theorem tdiv_bound {n b c : Int} (hb : 0 < b) (h : -c ≤ n ∧ n ≤ c) : -c ≤ n.tdiv b ∧ n.tdiv b ≤ c := by
  have h1 : (n.tdiv b).natAbs ≤ n.natAbs := by rw [Int.natAbs_tdiv]; exact Nat.div_le_self _ _
  omega
def unlessE (ok : Bool) (e : Int) : Int := bif ok then 0 else e
def firstE : List Int → Int
  | [] => 0
  | e :: l => bif e != 0 then e else firstE l
theorem firstE_drop {es : List Int} {i : Nat} (hi : i < es.length) : firstE (es.drop i) = bif gi es i != 0 then gi es i else firstE (es.drop (i + 1)) := by
  rw [List.drop_eq_getElem_cons hi, firstE]
  simp [gi, hi]
def idxF (p : Int → Bool) (xs : List Int) : Int :=
  match xs.findIdx? p with
  | some i => i
  | none => -1
theorem idxF_at {p : Int → Bool} {xs : List Int} {i : Nat} (hi : i < xs.length) (h : p (gi xs i) = true) (hb : ∀ j : Nat, j < i → p (gi xs j) = false) : idxF p xs = i := by
  unfold idxF
  have : xs.findIdx? p = some i := by
    rw [List.findIdx?_eq_some_iff_getElem]
    refine ⟨hi, by simpa [gi, hi] using h, fun j hj => ?_⟩
    have h1 := hb j hj
    have h2 : j < xs.length := by omega
    have : gi xs j = xs[j] := by simp [gi, h2]
    rw [this] at h1
    simp [h1]
  rw [this]
theorem idxF_none {p : Int → Bool} {xs : List Int} (h : ∀ j : Nat, j < xs.length → p (gi xs j) = false) : idxF p xs = -1 := by
  unfold idxF
  have : xs.findIdx? p = none := by
    rw [List.findIdx?_eq_none_iff]
    intro x hx
    obtain ⟨j, hj, rfl⟩ := List.getElem_of_mem hx
    have := h j hj
    simpa [gi, hj] using this
  rw [this]
theorem idxF_any (p : Int → Bool) (xs : List Int) : decide (0 ≤ idxF p xs) = xs.any p := by
  unfold idxF
  cases e : xs.findIdx? p with
  | none =>
    rw [List.findIdx?_eq_none_iff] at e
    have : xs.any p = false := by
      rw [Bool.eq_false_iff]
      intro h
      obtain ⟨x, hx, hp⟩ := List.any_eq_true.1 h
      rw [e x hx] at hp; cases hp
    rw [this]; rfl
  | some i =>
    rw [List.findIdx?_eq_some_iff_getElem] at e
    obtain ⟨h1, h2, _⟩ := e
    have : xs.any p = true := List.any_eq_true.2 ⟨_, List.getElem_mem h1, h2⟩
    rw [this]; simp
theorem any_not_all (p : Int → Bool) (xs : List Int) : xs.any (fun x => !p x) = !xs.all p := by
  induction xs with
  | nil => rfl
  | cons x l ih => simp [ih]
theorem signalErr_eq (xs : List Int) : signalErr xs = firstE [unlessE (decide ((xs.length : Int) ≤ 200)) 8, unlessE (areSamples xs) 2] := by
  unfold signalErr
  by_cases h : xs.length ≤ 200
  · rw [decide_eq_false (by omega), decide_eq_true (by omega)]; cases areSamples xs <;> rfl
  · rw [decide_eq_true (by omega), decide_eq_false (by omega)]; rfl
theorem signalErr_zero {xs : List Int} (h : signalErr xs = 0) : xs.length ≤ 200 ∧ areSamples xs = true := by
  unfold signalErr at h
  by_cases h1 : 200 < xs.length
  · rw [decide_eq_true h1] at h; cases h
  · rw [decide_eq_false h1] at h
    cases h2 : areSamples xs
    · rw [h2] at h; cases h
    · exact ⟨by omega, rfl⟩
end Go.Proofs.YtabmhfmglhjmjaaGreatDoor
set_option linter.unusedSimpArgs false
set_option linter.unusedVariables false
namespace Go.Proofs.YtabmhfmglhjmjaaGreatDoor
open Go.Ab
def swp (ys : List Int) (j : Nat) : List Int := (ys.set ((j : Int)).toNat (gi ys ((j : Int) - 1))).set ((j : Int) - 1).toNat (gi ys j)
theorem gi_nat (ys : List Int) (p : Nat) : gi ys (p : Int) = ys.getD p 0 := by simp [gi]
theorem swp_length (ys : List Int) (j : Nat) : (swp ys j).length = ys.length := by simp [swp]
theorem gi_swp {ys : List Int} {j : Nat} (h1 : 1 ≤ j) (h2 : j < ys.length) (p : Nat) : gi (swp ys j) p = if p = j - 1 then gi ys j else if p = j then gi ys ((j : Int) - 1) else gi ys p := by
  have e1 : ((j : Int)).toNat = j := by omega
  have e2 : ((j : Int) - 1).toNat = j - 1 := by omega
  unfold swp
  rw [gi_nat, e1, e2, List.getD_eq_getElem?_getD, List.getElem?_set]
  by_cases hp : p = j - 1
  · have : j - 1 < ys.length := by omega
    subst hp
    simp [this]
  · rw [if_neg (Ne.symm hp), if_neg hp, List.getElem?_set]
    by_cases hp2 : p = j
    · subst hp2; simp [h2]
    · rw [if_neg (Ne.symm hp2), if_neg hp2, gi_nat, List.getD_eq_getElem?_getD]
theorem swp_perm {ys : List Int} {j : Nat} (h1 : 1 ≤ j) (h2 : j < ys.length) : (swp ys j).Perm ys := by
  have hsp : ys = ys.take (j - 1) ++ gi ys ((j : Int) - 1) :: gi ys j :: ys.drop (j + 1) := by
    have a : ys.drop (j - 1) = gi ys ((j : Int) - 1) :: ys.drop j := by
      rw [List.drop_eq_getElem_cons (by omega), show j - 1 + 1 = j by omega]
      congr 1
      rw [show ((j : Int) - 1) = ((j - 1 : Nat) : Int) by omega, gi_nat, List.getD_eq_getElem?_getD, List.getElem?_eq_getElem (by omega)]; rfl
    have b : ys.drop j = gi ys j :: ys.drop (j + 1) := by
      rw [List.drop_eq_getElem_cons h2]
      congr 1
      rw [gi_nat, List.getD_eq_getElem?_getD, List.getElem?_eq_getElem h2]; rfl
    rw [← b, ← a, List.take_append_drop]
  have hsw : swp ys j = ys.take (j - 1) ++ gi ys j :: gi ys ((j : Int) - 1) :: ys.drop (j + 1) := by
    refine gi_ext ?_ fun p hp => ?_
    · rw [swp_length]; simp; omega
    · rw [gi_swp h1 h2]
      have hl : (ys.take (j - 1)).length = j - 1 := by simp; omega
      have hr : ∀ (l : List Int), gi l (p : Int) = (l[p]?).getD 0 := fun l => by rw [gi_nat, List.getD_eq_getElem?_getD]
      rw [hr (_ ++ _), List.getElem?_append, hl]
      by_cases c1 : p < j - 1
      · rw [if_pos c1, if_neg (by omega), if_neg (by omega), List.getElem?_take_of_lt c1, hr]
      · rw [if_neg c1]
        by_cases c2 : p = j - 1
        · rw [if_pos c2, c2]; simp
        · rw [if_neg c2]
          by_cases c3 : p = j
          · rw [if_pos c3, c3, show j - (j - 1) = 0 + 1 by omega]; simp
          · rw [if_neg c3, show p - (j - 1) = (p - j - 1) + 1 + 1 by omega, List.getElem?_cons_succ, List.getElem?_cons_succ, List.getElem?_drop, hr, show j + 1 + (p - j - 1) = p by omega]
  rw [hsw]
  conv => rhs; rw [hsp]
  exact List.Perm.append_left _ (List.Perm.swap _ _ _)
def SortTo (ys : List Int) (i : Nat) : Prop := ∀ p q : Nat, p < q → q < i → gi ys p ≤ gi ys q
def SortBut (ys : List Int) (i j : Nat) : Prop := ∀ p q : Nat, p < q → q ≤ i → q ≠ j → gi ys p ≤ gi ys q
theorem sortBut_start {ys : List Int} {i : Nat} (h : SortTo ys i) : SortBut ys i i := fun p q hp hq hn => h p q hp (by omega)
theorem sortBut_end {ys : List Int} {i j : Nat} (h : SortBut ys i j) (hj : j = 0 ∨ gi ys ((j : Int) - 1) ≤ gi ys j) : SortTo ys (i + 1) := by
  intro p q hp hq
  by_cases e : q = j
  · subst e
    rcases hj with hj | hj
    · omega
    · by_cases e2 : p = q - 1
      · subst e2; rw [show (((q - 1 : Nat)) : Int) = (q : Int) - 1 by omega]; exact hj
      · have := h p (q - 1) (by omega) (by omega) (by omega)
        rw [show (((q - 1 : Nat)) : Int) = (q : Int) - 1 by omega] at this
        omega
  · exact h p q hp (by omega) e
theorem sortBut_step {ys : List Int} {i j : Nat} (h1 : 1 ≤ j) (h2 : j ≤ i) (h3 : i < ys.length) (h : SortBut ys i j) (hlt : gi ys j < gi ys ((j : Int) - 1)) : SortBut (swp ys j) i (j - 1) := by
  intro p q hp hq hn
  have hj2 : j < ys.length := by omega
  rw [gi_swp h1 hj2, gi_swp h1 hj2]
  have key : ∀ a b : Nat, a < b → b ≤ i → b ≠ j → gi ys a ≤ gi ys b := h
  have ej : ((j - 1 : Nat) : Int) = (j : Int) - 1 := by omega
  rw [if_neg hn]
  by_cases q1 : q = j
  · rw [if_pos q1]
    by_cases p1 : p = j - 1
    · rw [if_pos p1]; omega
    · rw [if_neg p1, if_neg (by omega)]
      have := key p (j - 1) (by omega) (by omega) (by omega)
      rwa [ej] at this
  · rw [if_neg q1]
    by_cases p1 : p = j - 1
    · rw [if_pos p1]; exact key j q (by omega) hq q1
    · rw [if_neg p1]
      by_cases p2 : p = j
      · rw [if_pos p2]
        have := key (j - 1) q (by omega) hq q1
        rwa [ej] at this
      · rw [if_neg p2]; exact key p q hp hq q1
end Go.Proofs.YtabmhfmglhjmjaaGreatDoor
set_option linter.unusedSimpArgs false
set_option linter.unusedVariables false
namespace Go.Proofs.YtabmhfmglhjmjaaGreatDoor
open Go.Ab
def sorted (xs : List Int) : List Int := xs.mergeSort (fun a b => decide (a ≤ b))
theorem sorted_perm (xs : List Int) : (sorted xs).Perm xs := List.mergeSort_perm _ _
theorem sorted_length (xs : List Int) : (sorted xs).length = xs.length := (sorted_perm xs).length_eq
theorem sorted_pw (xs : List Int) : (sorted xs).Pairwise (fun a b => a ≤ b) := by
  have := List.pairwise_mergeSort (le := fun a b : Int => decide (a ≤ b)) (by intro a b c; simp; omega) (by intro a b; simp; omega) xs
  exact this.imp (by intro a b h; simpa using h)
theorem gi_some {ys : List Int} {p : Nat} (h : p < ys.length) : gi ys p = ys[p] := by
  rw [gi_nat, List.getD_eq_getElem?_getD, List.getElem?_eq_getElem h]; rfl
theorem sorted_eq {xs ys : List Int} (hp : ys.Perm xs) (hs : SortTo ys ys.length) : ys = sorted xs := by
  refine List.Perm.eq_of_pairwise (le := fun a b => a ≤ b) (fun a b _ _ h1 h2 => by omega) ?_ (sorted_pw xs) (hp.trans (sorted_perm xs).symm)
  rw [List.pairwise_iff_getElem]
  intro i j hi hj hij
  have := hs i j hij hj
  rwa [gi_some hi, gi_some hj] at this
theorem sorted_mem {xs : List Int} (h : areSamples xs = true) : areSamples (sorted xs) = true := by
  unfold areSamples at *
  rw [List.all_eq_true] at *
  exact fun x hx => h x ((sorted_perm xs).mem_iff.1 hx)
end Go.Proofs.YtabmhfmglhjmjaaGreatDoor
set_option linter.unusedVariables false
set_option linter.unusedSimpArgs false
namespace Go.Proofs.YtabmhfmglhjmjaaGreatDoor
open Go.Ab
structure Run where
  lo : Int
  hi : Int
  pk : Int
  dv : Int
  deriving DecidableEq
def Run.cells (r : Run) : List Int := [r.lo, r.hi, r.pk, r.dv]
instance : Inhabited Run := ⟨⟨0, 0, 0, 0⟩⟩
def RunOk (n : Nat) (c : Int) (r : Run) : Prop := 0 ≤ r.lo ∧ r.lo ≤ r.hi ∧ r.hi < n ∧ r.lo ≤ r.pk ∧ r.pk ≤ r.hi ∧ 0 ≤ r.dv ∧ r.dv ≤ c
theorem RunOk.mono {n m : Nat} {c : Int} {r : Run} (h : RunOk n c r) (hm : n ≤ m) : RunOk m c r := by unfold RunOk at *; omega
end Go.Proofs.YtabmhfmglhjmjaaGreatDoor
set_option linter.unusedSimpArgs false
set_option linter.unusedVariables false
namespace Go.Proofs.YtabmhfmglhjmjaaGreatDoor
open Go.Ab
end Go.Proofs.YtabmhfmglhjmjaaGreatDoor

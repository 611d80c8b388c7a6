/- Chapter 5, plain: the sorted row; the median; deviations. -/
import Derived.Test.YtbobgnkohnbonaaS05b
set_option linter.unusedSimpArgs false
set_option linter.unusedVariables false
namespace Go.Proofs.Ytbobgnkohnbonaa
open Go.Ab

def sorted (xs : List Int) : List Int := xs.mergeSort (fun a b => decide (a ≤ b))
theorem sorted_perm (xs : List Int) : (sorted xs).Perm xs := List.mergeSort_perm _ _
theorem sorted_length (xs : List Int) : (sorted xs).length = xs.length := (sorted_perm xs).length_eq
theorem sorted_pw (xs : List Int) : (sorted xs).Pairwise (fun a b => a ≤ b) := by
  have := List.pairwise_mergeSort (le := fun a b : Int => decide (a ≤ b)) (by intro a b c; simp; omega) (by intro a b; simp; omega) xs
  exact this.imp (by intro a b h; simpa using h)

theorem gi_some {ys : List Int} {p : Nat} (h : p < ys.length) : gi ys p = ys[p] := by
  rw [gi_nat, List.getD_eq_getElem?_getD, List.getElem?_eq_getElem h]; rfl

theorem sorted_eq {xs ys : List Int} (hp : ys.Perm xs) (hs : SortTo ys ys.length) : ys = sorted xs := by
  refine List.Perm.eq_of_pairwise (le := fun a b => a ≤ b) (fun a b _ _ h1 h2 => by omega) ?_ (sorted_pw xs) (hp.trans (sorted_perm xs).symm)
  rw [List.pairwise_iff_getElem]
  intro i j hi hj hij
  have := hs i j hij hj
  rwa [gi_some hi, gi_some hj] at this

/-- The median: the middle one of the sorted row, the lower one of two. -/
def med (xs : List Int) : Int := gi (sorted xs) (((xs.length : Int) - 1) / 2)

/-- How many are not greater. -/
def cnt (xs : List Int) (v : Int) : Nat := xs.countP fun x => decide (x ≤ v)

theorem cnt_sorted (xs : List Int) (v : Int) : cnt xs v = cnt (sorted xs) v := ((sorted_perm xs).countP_eq _).symm

theorem cnt_ge {s : List Int} (hs : s.Pairwise (fun a b => a ≤ b)) {k : Nat} (hk : k < s.length) {v : Int} (h : s[k] ≤ v) : k + 1 ≤ cnt s v := by
  have e : s = s.take (k + 1) ++ s.drop (k + 1) := (List.take_append_drop _ _).symm
  unfold cnt
  rw [e, List.countP_append]
  have : (s.take (k + 1)).countP (fun x => decide (x ≤ v)) = (s.take (k + 1)).length := by
    rw [List.countP_eq_length]
    intro x hx
    obtain ⟨i, hi, rfl⟩ := List.getElem_of_mem hx
    have hi' : i < k + 1 := by have := hi; simp at this; omega
    rw [List.getElem_take]
    rw [List.pairwise_iff_getElem] at hs
    rcases Nat.lt_or_ge i k with h' | h'
    · have := hs i k (by omega) hk h'
      simp; omega
    · have : i = k := by omega
      subst this; simpa using h
  rw [this]
  simp; omega

theorem cnt_le {s : List Int} (hs : s.Pairwise (fun a b => a ≤ b)) {k : Nat} (hk : k < s.length) {v : Int} (h : v < s[k]) : cnt s v ≤ k := by
  have e : s = s.take k ++ s.drop k := (List.take_append_drop _ _).symm
  unfold cnt
  rw [e, List.countP_append]
  have h1 : (s.drop k).countP (fun x => decide (x ≤ v)) = 0 := by
    rw [List.countP_eq_zero]
    intro x hx
    obtain ⟨i, hi, rfl⟩ := List.getElem_of_mem hx
    rw [List.getElem_drop]
    rw [List.pairwise_iff_getElem] at hs
    rcases Nat.eq_zero_or_pos i with h' | h'
    · subst h'; simp; omega
    · have := hs k (k + i) hk (by simp at hi; omega) (by omega)
      simp; omega
  have h2 : (s.take k).countP (fun x => decide (x ≤ v)) ≤ k := Nat.le_trans List.countP_le_length (by simp; omega)
  omega

/-- What the search for the median has found among the first i. -/
def MedTo (xs : List Int) (i : Nat) (best : Int) (found : Bool) : Prop :=
  (found = false ∧ best = 0 ∧ ∀ j : Nat, j < i → 2 * cnt xs (gi xs j) < xs.length) ∨
  (found = true ∧ (∃ j : Nat, j < i ∧ xs.length ≤ 2 * cnt xs (gi xs j) ∧ best = gi xs j) ∧ ∀ j : Nat, j < i → xs.length ≤ 2 * cnt xs (gi xs j) → best ≤ gi xs j)

theorem medTo_start (xs : List Int) : MedTo xs 0 0 false := .inl ⟨rfl, rfl, fun j hj => by omega⟩

theorem med_at {xs : List Int} (hn : 1 ≤ xs.length) : (xs.length - 1) / 2 < (sorted xs).length ∧ med xs = gi (sorted xs) ((xs.length - 1) / 2 : Nat) := by
  have := sorted_length xs
  refine ⟨by omega, ?_⟩
  unfold med
  congr 1
  omega

theorem medTo_end {xs : List Int} (hn : 1 ≤ xs.length) {best : Int} {found : Bool} (h : MedTo xs xs.length best found) : best = med xs := by
  obtain ⟨h1, h2⟩ := med_at hn
  have hs := sorted_pw xs
  have hl := sorted_length xs
  generalize hk : (xs.length - 1) / 2 = k at h1 h2
  have hm : med xs = (sorted xs)[k] := by rw [h2, gi_some h1]
  have hc : xs.length ≤ 2 * cnt xs (med xs) := by
    rw [cnt_sorted]
    have := cnt_ge hs h1 (v := med xs) (by rw [hm]; exact Int.le_refl _)
    omega
  have hmem : ∃ j : Nat, j < xs.length ∧ gi xs j = med xs := by
    have : (sorted xs)[k] ∈ xs := (sorted_perm xs).mem_iff.1 (List.getElem_mem h1)
    obtain ⟨j, hj, e⟩ := List.getElem_of_mem this
    exact ⟨j, hj, by rw [gi_some hj, e, hm]⟩
  have hlow : ∀ v, xs.length ≤ 2 * cnt xs v → med xs ≤ v := by
    intro v hv
    rcases Int.lt_or_le v (med xs) with h' | h'
    · rw [cnt_sorted] at hv
      have := cnt_le hs h1 (v := v) (by rw [← hm]; exact h')
      omega
    · exact h'
  obtain ⟨j, hj, e⟩ := hmem
  rcases h with ⟨_, _, h⟩ | ⟨_, ⟨j', hj', h3, h4⟩, h5⟩
  · have := h j hj
    rw [e] at this
    omega
  · have a := hlow best (by rw [h4]; exact h3)
    have b := h5 j hj (by rw [e]; exact hc)
    rw [e] at b
    omega

theorem medTo_new {xs : List Int} {i : Nat} {best : Int} {found : Bool} (h : MedTo xs i best found) (hc : xs.length ≤ 2 * cnt xs (gi xs i)) (hb : found = false ∨ gi xs i < best) : MedTo xs (i + 1) (gi xs i) true := by
  refine .inr ⟨rfl, ⟨i, by omega, hc, rfl⟩, fun j hj hj2 => ?_⟩
  rcases Nat.lt_or_ge j i with h' | h'
  · rcases h with ⟨_, _, h⟩ | ⟨e, _, h⟩
    · have := h j h'; omega
    · rcases hb with hb | hb
      · rw [e] at hb; cases hb
      · have := h j h' hj2; omega
  · rw [show j = i by omega]; exact Int.le_refl _
theorem medTo_old {xs : List Int} {i : Nat} {best : Int} {found : Bool} (h : MedTo xs i best found) (hc : 2 * cnt xs (gi xs i) < xs.length ∨ (found = true ∧ best ≤ gi xs i)) : MedTo xs (i + 1) best found := by
  rcases h with ⟨h1, h2, h3⟩ | ⟨h1, ⟨j', h2, h3⟩, h4⟩
  · refine .inl ⟨h1, h2, fun j hj => ?_⟩
    rcases Nat.lt_or_ge j i with h' | h'
    · exact h3 j h'
    · rw [show j = i by omega]
      rcases hc with hc | ⟨hc, _⟩
      · exact hc
      · rw [h1] at hc; cases hc
  · refine .inr ⟨h1, ⟨j', by omega, h3⟩, fun j hj hj2 => ?_⟩
    rcases Nat.lt_or_ge j i with h' | h'
    · exact h4 j h' hj2
    · rw [show j = i by omega] at hj2 ⊢
      rcases hc with hc | ⟨_, hc⟩
      · omega
      · exact hc

/-- How many of the first k are not greater. -/
def cntTo (xs : List Int) (v : Int) (k : Nat) : Nat := cnt (xs.take k) v
theorem cntTo_succ {xs : List Int} {v : Int} {k : Nat} (h : k < xs.length) : cntTo xs v (k + 1) = cntTo xs v k + (if gi xs k ≤ v then 1 else 0) := by
  unfold cntTo cnt
  rw [← take_gi h, List.countP_append, List.countP_singleton]
  congr 1
  simp
theorem cntTo_le (xs : List Int) (v : Int) (k : Nat) : cntTo xs v k ≤ k := Nat.le_trans List.countP_le_length (by simp; omega)
theorem cntTo_all (xs : List Int) (v : Int) : cntTo xs v xs.length = cnt xs v := by unfold cntTo; rw [List.take_length]

theorem sorted_mem {xs : List Int} (h : areSamples xs = true) : areSamples (sorted xs) = true := by
  unfold areSamples at *
  rw [List.all_eq_true] at *
  exact fun x hx => h x ((sorted_perm xs).mem_iff.1 hx)

/-- The neighbours of a sample. -/
def near (w : Int) (xs : List Int) (i : Nat) : List Int := (xs.drop (max 0 ((i : Int) - w)).toNat).take ((min (xs.length : Int) (i + w + 1)).toNat - (max 0 ((i : Int) - w)).toNat)

def dev (k w : Int) (xs : List Int) (i : Nat) : Int := bif k == 0 then ((gi xs i - med (near w xs i)).natAbs : Int) else ((second xs i).natAbs : Int)
def devs (k w : Int) (xs : List Int) : List Int := (List.range xs.length).map (dev k w xs)
def devsTo (k w : Int) (xs : List Int) (i : Nat) : List Int := (List.range i).map (dev k w xs)
theorem devsTo_succ (k w : Int) (xs : List Int) (i : Nat) : devsTo k w xs i ++ [dev k w xs i] = devsTo k w xs (i + 1) := by simp [devsTo, List.range_succ]
theorem devsTo_length (k w : Int) (xs : List Int) (i : Nat) : (devsTo k w xs i).length = i := by simp [devsTo]
theorem devs_length (k w : Int) (xs : List Int) : (devs k w xs).length = xs.length := by simp [devs]

theorem areSamples_sub {xs ys : List Int} (h : areSamples xs = true) (hs : ∀ y ∈ ys, y ∈ xs) : areSamples ys = true := by
  unfold areSamples at *
  rw [List.all_eq_true] at *
  exact fun y hy => h y (hs y hy)
theorem near_samples {w : Int} {xs : List Int} {i : Nat} (h : areSamples xs = true) : areSamples (near w xs i) = true :=
  areSamples_sub h fun y hy => List.mem_of_mem_drop (List.mem_of_mem_take hy)
theorem near_length {w : Int} {xs : List Int} {i : Nat} (hw : 0 ≤ w ∧ w ≤ 4) (hi : i < xs.length) : 1 ≤ (near w xs i).length ∧ (near w xs i).length ≤ 9 := by
  unfold near
  rw [List.length_take, List.length_drop]
  omega
theorem med_bound {xs : List Int} (h : areSamples xs = true) : -32767 ≤ med xs ∧ med xs ≤ 32767 := sample_gi (sorted_mem h) _
theorem dev_bound {k w : Int} {xs : List Int} (h : areSamples xs = true) (i : Nat) : 0 ≤ dev k w xs i ∧ dev k w xs i ≤ 131068 := by
  have h1 := med_bound (near_samples (w := w) (i := i) h)
  have h2 := sample_gi h i
  have h3 := second_bound h i
  unfold dev
  cases k == 0
  · rw [cond_false]; omega
  · rw [cond_true]; omega
end Go.Proofs.Ytbobgnkohnbonaa

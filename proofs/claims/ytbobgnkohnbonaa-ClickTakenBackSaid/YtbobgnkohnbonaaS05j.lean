/- Chapter 5, plain: what is removed is added again; a signal that repeats. -/
import Derived.Test.YtbobgnkohnbonaaS05i
set_option linter.unusedSimpArgs false
set_option linter.unusedVariables false
namespace Go.Proofs.Ytbobgnkohnbonaa
open Go.Ab

theorem gi_humTo {p f : Int} {ts xs : List Int} {c : Int} {n i : Nat} (hi : i < n) : gi (humTo p f ts xs c n) i = humAt p f ts xs c i := by
  unfold humTo gi
  simp [hi]
theorem hum_back {p f : Int} {ts xs : List Int} (c : Int) : humTo p f ts (humTo p f ts xs c xs.length) (-c) xs.length = xs := by
  refine gi_ext (by rw [humTo_length]) fun i hi => ?_
  rw [humTo_length] at hi
  rw [gi_humTo hi]
  unfold humAt
  rw [gi_humTo hi]
  unfold humAt
  rw [Int.neg_mul]
  omega
/-- Taken back. -/
theorem rem_back {p f : Int} {ts xs : List Int} {c : Int} (h1 : humErr p f ts = 0) (h2 : signalErr xs = 0) (hA : areSamples (humTo p f ts xs c xs.length) = true) :
    remL p f ts (humTo p f ts xs c xs.length) (-c) = xs ∧ remE p f ts (humTo p f ts xs c xs.length) (-c) = 0 := by
  obtain ⟨hn, hx⟩ := signalErr_zero h2
  have hl := humTo_length p f ts xs c xs.length
  have hs : signalErr (humTo p f ts xs c xs.length) = 0 := by
    unfold signalErr
    rw [hl, decide_eq_false (by omega), hA]; rfl
  have hE : humsErr p f ts (humTo p f ts xs c xs.length) = 0 := by
    unfold humsErr firstE firstE firstE
    rw [h1, hs]; rfl
  have hb := hum_back (p := p) (f := f) (ts := ts) (xs := xs) c
  unfold remL remE humAll
  rw [hE, hl, hb, hx]
  exact ⟨rfl, rfl⟩
theorem rem_fine {p f : Int} {ts xs : List Int} {c : Int} (h1 : humErr p f ts = 0) (h2 : signalErr xs = 0) (hA : areSamples (humTo p f ts xs c xs.length) = true) :
    remL p f ts xs c = humTo p f ts xs c xs.length ∧ remE p f ts xs c = 0 := by
  have hE : humsErr p f ts xs = 0 := by
    unfold humsErr firstE firstE firstE
    rw [h1, h2]; rfl
  unfold remL remE humAll
  rw [hE, hA]
  exact ⟨rfl, rfl⟩
theorem rem_bad {p f : Int} {ts xs : List Int} {c : Int} (h1 : humErr p f ts = 0) (h2 : signalErr xs = 0) (hA : areSamples (humTo p f ts xs c xs.length) = false) :
    remE p f ts xs c = 23 := by
  have hE : humsErr p f ts xs = 0 := by
    unfold humsErr firstE firstE firstE
    rw [h1, h2]; rfl
  unfold remE
  rw [hE, hA]; rfl

/-! ### a period, repeated -/
def repTo (P : List Int) (i : Nat) : List Int := (List.range i).map fun k => gi P ((k % P.length : Nat) : Int)
theorem repTo_succ (P : List Int) (i : Nat) : repTo P i ++ [gi P ((i % P.length : Nat) : Int)] = repTo P (i + 1) := by simp [repTo, List.range_succ]
theorem repTo_length (P : List Int) (i : Nat) : (repTo P i).length = i := by simp [repTo]
theorem gi_repTo {P : List Int} {n i : Nat} (hi : i < n) : gi (repTo P n) i = gi P ((i % P.length : Nat) : Int) := by
  unfold repTo gi
  simp [hi]
theorem repTo_samples {P : List Int} (h : areSamples P = true) (n : Nat) : areSamples (repTo P n) = true := by
  unfold areSamples repTo
  rw [List.all_eq_true]
  intro x hx
  obtain ⟨k, _, rfl⟩ := List.mem_map.1 hx
  have := sample_gi h ((k % P.length : Nat) : Int)
  rw [isSample, within_iff]; exact this
theorem sumTo_const {f : Nat → Int} {c : Int} : ∀ {n : Nat}, (∀ i, i < n → f i = c) → sumTo f n = n * c
  | 0, _ => by simp [sumTo]
  | n + 1, h => by
    simp only [sumTo]
    rw [sumTo_const fun i hi => h i (by omega), h n (by omega)]
    have : ((n + 1 : Nat) : Int) * c = n * c + c := by rw [Int.natCast_add, Int.add_mul]; simp
    rw [this]
theorem mean_const {l : List Int} {c : Int} (h1 : 1 ≤ l.length) (h : ∀ x ∈ l, x = c) : meanI l = c := by
  unfold meanI sumL
  rw [sumTo_const (c := c) fun i hi => by
    have : gi l (i : Nat) = l[i] := by simp [gi, hi]
    rw [this]
    exact h _ (List.getElem_mem hi)]
  exact Int.mul_ediv_cancel_left c (by omega)
theorem phz_rep {P : List Int} {N : Nat} : ∀ i j, i ≤ N → ∀ x ∈ phz (repTo P N) P.length i j, x = gi P (j : Nat)
  | 0, _, _, x, h => by simp [phz] at h
  | i + 1, j, hi, x, h => by
    simp only [phz] at h
    split at h
    · rename_i e
      rcases List.mem_append.1 h with h' | h'
      · exact phz_rep i j (by omega) x h'
      · simp only [List.mem_singleton] at h'
        rw [h', gi_repTo (by omega), e]
    · exact phz_rep i j (by omega) x h
/-- The table of a signal that repeats. -/
theorem tab_rep {P : List Int} {N j : Nat} (hj : j < P.length) (hN : P.length ≤ N) : gi (humTab (repTo P N) P.length) (j : Nat) = gi P (j : Nat) - meanI (repTo P N) := by
  have h1 : meanI (phz (repTo P N) P.length N j) = gi P (j : Nat) := mean_const (phz_pos hj N (by omega)) (phz_rep N j (Nat.le_refl _))
  unfold humTab humTabTo
  rw [repTo_length, show ((P.length : Nat) : Int).toNat = P.length by omega]
  have : gi ((List.range P.length).map fun j => meanI (phz (repTo P N) P.length N j) - meanI (repTo P N)) (j : Nat) = meanI (phz (repTo P N) P.length N j) - meanI (repTo P N) := by
    unfold gi
    simp [hj]
  rw [this, h1]
theorem tab_length (xs : List Int) (p : Nat) : (humTab xs p).length = p := by
  unfold humTab
  rw [humTabTo_length]; omega
theorem tab_err {P : List Int} {N : Nat} (hp : areSamples P = true) (h1 : 1 ≤ P.length) (h2 : P.length ≤ 20) (hN : P.length ≤ N) : humErr P.length 0 (humTab (repTo P N) P.length) = 0 := by
  have hm := meanI_bound (repTo_samples hp N) (by rw [repTo_length]; omega)
  unfold humErr
  rw [show (within (P.length : Int) 1 64 && within 0 0 ((P.length : Int) - 1)) = true by rw [Bool.and_eq_true, within_iff, within_iff]; omega, tab_length, decide_eq_true rfl]
  have : (humTab (repTo P N) P.length).all inTab = true := by
    rw [List.all_eq_true]
    intro x hx
    obtain ⟨j, hj, rfl⟩ := List.mem_iff_getElem.1 hx
    have hj' : j < P.length := by rw [tab_length] at hj; exact hj
    have hg := tab_rep hj' hN
    have he : gi (humTab (repTo P N) P.length) (j : Nat) = (humTab (repTo P N) P.length)[j] := by simp [gi, hj]
    rw [← he, hg, inTab, within_iff]
    have := sample_gi hp (j : Nat)
    omega
  rw [this]; rfl
/-- Only the mean remains. -/
theorem rest_mean {P : List Int} {N i : Nat} (h1 : 1 ≤ P.length) (hN : P.length ≤ N) (hi : i < N) : humAt P.length 0 (humTab (repTo P N) P.length) (repTo P N) (-1) i = meanI (repTo P N) := by
  unfold humAt
  have : ((i : Int) + 0).tmod (P.length : Int) = ((i % P.length : Nat) : Int) := by rw [Int.add_zero]; exact (Int.ofNat_tmod i P.length).symm
  rw [this, gi_repTo hi, tab_rep (Nat.mod_lt _ (by omega)) hN]
  omega
theorem rest_samples {P : List Int} {N : Nat} (hp : areSamples P = true) (h1 : 1 ≤ P.length) (hN : P.length ≤ N) : areSamples (humTo P.length 0 (humTab (repTo P N) P.length) (repTo P N) (-1) (repTo P N).length) = true := by
  rw [repTo_length]
  unfold areSamples humTo
  rw [List.all_eq_true]
  intro x hx
  obtain ⟨k, hk, rfl⟩ := List.mem_map.1 hx
  rw [rest_mean h1 hN (List.mem_range.1 hk), isSample, within_iff]
  exact meanI_bound (repTo_samples hp N) (by rw [repTo_length]; omega)
end Go.Proofs.Ytbobgnkohnbonaa

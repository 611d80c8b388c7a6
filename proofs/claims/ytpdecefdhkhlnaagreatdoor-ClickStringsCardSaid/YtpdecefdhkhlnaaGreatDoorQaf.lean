/- Parts of the proof, put together by a program. -/
import Derived.Test.YtpdecefdhkhlnaaGreatDoorQad
import Derived.Test.YtpdecefdhkhlnaaGreatDoorQae
set_option linter.unusedSimpArgs false
set_option linter.unusedVariables false
set_option linter.unusedSectionVars false
namespace Go.Proofs.YtpdecefdhkhlnaaGreatDoor
open Go.Ab
attribute [local instance] drS
def Len (n : Nat) : Prop := n ≤ 1099511627776
theorem len_lit {n : Nat} (h : Nat.ble n 1099511627776 = true) : Len n := Nat.le_of_ble_eq_true h
def within (n lo hi : Int) : Bool := decide (lo ≤ n) && decide (n ≤ hi)
def isSample (n : Int) : Bool := within n (-32767) 32767
def areSamples (xs : List Int) : Bool := xs.all isSample
def rulesErr (k w t j m p : Int) : Int :=
  bif !within k 0 1 then 15 else bif decide (k = 0) && !within w 1 4 then 2 else bif decide (k = 1) && decide (w ≠ 0) then 3 else
  bif !within t 0 131068 || !within j 2 8 || !within m 1 8 || !within p 0 100 then 2 else 0
def signalErr (xs : List Int) : Int := bif decide (200 < xs.length) then 8 else bif areSamples xs then 0 else 2
def second (xs : List Int) (i : Int) : Int := bif decide (i < 1) || decide ((xs.length : Int) - 2 < i) then 0 else gi xs (i - 1) - 2 * gi xs i + gi xs (i + 1)
def sumTo (f : Nat → Int) : Nat → Int
  | 0 => 0
  | n + 1 => sumTo f n + f n
def energy (xs : List Int) : Int := sumTo (fun i => second xs i * second xs i) xs.length
theorem gi_ext {xs ys : List Int} (h : xs.length = ys.length) (h2 : ∀ j : Nat, j < xs.length → gi xs j = gi ys j) : xs = ys := by
  refine List.ext_getElem h fun i h1 h3 => ?_
  have := h2 i h1
  simpa [gi, h1, h3] using this
theorem within_iff {n lo hi : Int} : within n lo hi = true ↔ lo ≤ n ∧ n ≤ hi := by simp [within]
theorem within_false {n lo hi : Int} : within n lo hi = false ↔ n < lo ∨ hi < n := by
  unfold within
  by_cases h1 : lo ≤ n <;> by_cases h2 : n ≤ hi <;> simp [h1, h2] <;> omega
theorem sample_gi {xs : List Int} (h : areSamples xs = true) (i : Int) : -32767 ≤ gi xs i ∧ gi xs i ≤ 32767 := by
  unfold gi
  rw [List.getD_eq_getElem?_getD]
  cases e : xs[i.toNat]? with
  | none => simp
  | some x =>
    have := List.all_eq_true.1 h x (List.mem_of_getElem? e)
    exact within_iff.1 this
theorem second_bound {xs : List Int} (h : areSamples xs = true) (i : Int) : -131068 ≤ second xs i ∧ second xs i ≤ 131068 := by
  unfold second
  have h1 := sample_gi h (i - 1)
  have h2 := sample_gi h i
  have h3 := sample_gi h (i + 1)
  cases decide (i < 1) || decide ((xs.length : Int) - 2 < i)
  · simp only [cond_false]; omega
  · simp
theorem sumTo_bound {f : Nat → Int} {n : Nat} {c : Int} (h : ∀ i, i < n → 0 ≤ f i ∧ f i ≤ c) : 0 ≤ sumTo f n ∧ sumTo f n ≤ n * c := by
  induction n with
  | zero => simp [sumTo]
  | succ n ih =>
    have h1 := ih fun i hi => h i (by omega)
    have h2 := h n (by omega)
    simp only [sumTo]
    rw [show (((n + 1 : Nat) : Int)) * c = n * c + c by rw [Int.natCast_succ, Int.add_mul, Int.one_mul]]
    omega
theorem sq_bound {a c : Int} (h1 : -c ≤ a) (h2 : a ≤ c) : 0 ≤ a * a ∧ a * a ≤ c * c := by
  rcases Int.le_total 0 a with h | h
  · exact ⟨Int.mul_nonneg h h, Int.mul_le_mul h2 h2 h (by omega)⟩
  · have : a * a = (-a) * (-a) := by rw [Int.neg_mul_neg]
    rw [this]
    exact ⟨Int.mul_nonneg (by omega) (by omega), Int.mul_le_mul (by omega) (by omega) (by omega) (by omega)⟩
theorem iv_eq {a b : Int} (h : a = b) : AV.v (.int .i64 a) = iv b := by rw [h]
theorem bv_eq {a b : Bool} (h : a = b) : AV.v (.bool a) = .v (.bool b) := by rw [h]
theorem tmod_bound {n b : Int} (hb : 0 < b) : -b < n.tmod b ∧ n.tmod b < b := by
  have h1 := Int.tmod_lt_of_pos n hb
  refine ⟨?_, h1⟩
  have h2 := Int.tmod_lt_of_pos (-n) hb
  rw [Int.neg_tmod] at h2
  omega
theorem floor_eq {n b : Int} (hb : 0 < b) : n / b = bif decide (n.tmod b < 0) then n.tdiv b - 1 else n.tdiv b := by
  have h0 := Int.mul_tdiv_add_tmod n b
  obtain ⟨h1, h2⟩ := tmod_bound (n := n) hb
  by_cases h : n.tmod b < 0
  · rw [decide_eq_true h, cond_true]
    refine ((Int.ediv_emod_unique (r := n.tmod b + b) hb).2 ⟨?_, by omega, by omega⟩).1
    rw [Int.mul_sub]; omega
  · rw [decide_eq_false h, cond_false]
    exact ((Int.ediv_emod_unique (r := n.tmod b) hb).2 ⟨by omega, by omega, h2⟩).1
theorem tdiv_bound {n b c : Int} (hb : 0 < b) (h : -c ≤ n ∧ n ≤ c) : -c ≤ n.tdiv b ∧ n.tdiv b ≤ c := by
  have h1 : (n.tdiv b).natAbs ≤ n.natAbs := by rw [Int.natAbs_tdiv]; exact Nat.div_le_self _ _
  omega
def unlessE (ok : Bool) (e : Int) : Int := bif ok then 0 else e
def firstE : List Int → Int
  | [] => 0
  | e :: l => bif e != 0 then e else firstE l
theorem firstE_drop {es : List Int} {i : Nat} (hi : i < es.length) : firstE (es.drop i) = bif gi es i != 0 then gi es i else firstE (es.drop (i + 1)) := by
  rw [List.drop_eq_getElem_cons hi, firstE]
  simp [gi, hi]
def idxF (p : Int → Bool) (xs : List Int) : Int :=
  match xs.findIdx? p with
  | some i => i
  | none => -1
theorem idxF_at {p : Int → Bool} {xs : List Int} {i : Nat} (hi : i < xs.length) (h : p (gi xs i) = true) (hb : ∀ j : Nat, j < i → p (gi xs j) = false) : idxF p xs = i := by
  unfold idxF
  have : xs.findIdx? p = some i := by
    rw [List.findIdx?_eq_some_iff_getElem]
    refine ⟨hi, by simpa [gi, hi] using h, fun j hj => ?_⟩
    have h1 := hb j hj
    have h2 : j < xs.length := by omega
    have : gi xs j = xs[j] := by simp [gi, h2]
    rw [this] at h1
    simp [h1]
  rw [this]
theorem idxF_none {p : Int → Bool} {xs : List Int} (h : ∀ j : Nat, j < xs.length → p (gi xs j) = false) : idxF p xs = -1 := by
  unfold idxF
  have : xs.findIdx? p = none := by
    rw [List.findIdx?_eq_none_iff]
    intro x hx
    obtain ⟨j, hj, rfl⟩ := List.getElem_of_mem hx
    have := h j hj
    simpa [gi, hj] using this
  rw [this]
theorem idxF_any (p : Int → Bool) (xs : List Int) : decide (0 ≤ idxF p xs) = xs.any p := by
  unfold idxF
  cases e : xs.findIdx? p with
  | none =>
    rw [List.findIdx?_eq_none_iff] at e
    have : xs.any p = false := by
      rw [Bool.eq_false_iff]
      intro h
      obtain ⟨x, hx, hp⟩ := List.any_eq_true.1 h
      rw [e x hx] at hp; cases hp
    rw [this]; rfl
  | some i =>
    rw [List.findIdx?_eq_some_iff_getElem] at e
    obtain ⟨h1, h2, _⟩ := e
    have : xs.any p = true := List.any_eq_true.2 ⟨_, List.getElem_mem h1, h2⟩
    rw [this]; simp
theorem any_not_all (p : Int → Bool) (xs : List Int) : xs.any (fun x => !p x) = !xs.all p := by
  induction xs with
  | nil => rfl
  | cons x l ih => simp [ih]
theorem second_within (xs : List Int) (i : Int) : second xs i = bif !within i 1 ((xs.length : Int) - 2) then 0 else gi xs (i - 1) - 2 * gi xs i + gi xs (i + 1) := by
  unfold second
  congr 1
  unfold within
  by_cases h1 : 1 ≤ i <;> by_cases h2 : i ≤ (xs.length : Int) - 2 <;> simp [h1, h2] <;> omega
theorem signalErr_eq (xs : List Int) : signalErr xs = firstE [unlessE (decide ((xs.length : Int) ≤ 200)) 8, unlessE (areSamples xs) 2] := by
  unfold signalErr
  by_cases h : xs.length ≤ 200
  · rw [decide_eq_false (by omega), decide_eq_true (by omega)]; cases areSamples xs <;> rfl
  · rw [decide_eq_true (by omega), decide_eq_false (by omega)]; rfl
theorem signalErr_zero {xs : List Int} (h : signalErr xs = 0) : xs.length ≤ 200 ∧ areSamples xs = true := by
  unfold signalErr at h
  by_cases h1 : 200 < xs.length
  · rw [decide_eq_true h1] at h; cases h
  · rw [decide_eq_false h1] at h
    cases h2 : areSamples xs
    · rw [h2] at h; cases h
    · exact ⟨by omega, rfl⟩
theorem rulesErr_eq (k w t j m p : Int) : rulesErr k w t j m p =
    firstE [unlessE (within k 0 1) 15, unlessE (k != 0 || within w 1 4) 2, unlessE (k != 1 || w == 0) 3, unlessE (within t 0 131068 && within j 2 8 && within m 1 8 && within p 0 100) 2] := by
  unfold rulesErr
  rw [show decide (k = 0) = !(k != 0) by by_cases h : k = 0 <;> simp [h], show decide (k = 1) = !(k != 1) by by_cases h : k = 1 <;> simp [h], show decide (w ≠ 0) = !(w == 0) by by_cases h : w = 0 <;> simp [h]]
  generalize (k != 0) = a
  generalize (k != 1) = b
  generalize (w == 0) = c
  generalize within k 0 1 = d
  generalize within w 1 4 = e
  generalize (within t 0 131068) = f
  generalize (within j 2 8) = g
  generalize (within m 1 8) = h
  generalize (within p 0 100) = i
  revert a b c d e f g h i
  decide
theorem take_gi {xs : List Int} {t : Nat} (h : t < xs.length) : xs.take t ++ [gi xs t] = xs.take (t + 1) := by
  rw [List.take_add_one, List.getElem?_eq_getElem h]
  simp [gi, h]
end Go.Proofs.YtpdecefdhkhlnaaGreatDoor
set_option linter.unusedSimpArgs false
set_option linter.unusedVariables false
namespace Go.Proofs.YtpdecefdhkhlnaaGreatDoor
open Go.Ab
def swp (ys : List Int) (j : Nat) : List Int := (ys.set ((j : Int)).toNat (gi ys ((j : Int) - 1))).set ((j : Int) - 1).toNat (gi ys j)
theorem gi_nat (ys : List Int) (p : Nat) : gi ys (p : Int) = ys.getD p 0 := by simp [gi]
theorem swp_length (ys : List Int) (j : Nat) : (swp ys j).length = ys.length := by simp [swp]
theorem gi_swp {ys : List Int} {j : Nat} (h1 : 1 ≤ j) (h2 : j < ys.length) (p : Nat) : gi (swp ys j) p = if p = j - 1 then gi ys j else if p = j then gi ys ((j : Int) - 1) else gi ys p := by
  have e1 : ((j : Int)).toNat = j := by omega
  have e2 : ((j : Int) - 1).toNat = j - 1 := by omega
  unfold swp
  rw [gi_nat, e1, e2, List.getD_eq_getElem?_getD, List.getElem?_set]
  by_cases hp : p = j - 1
  · have : j - 1 < ys.length := by omega
    subst hp
    simp [this]
  · rw [if_neg (Ne.symm hp), if_neg hp, List.getElem?_set]
    by_cases hp2 : p = j
    · subst hp2; simp [h2]
    · rw [if_neg (Ne.symm hp2), if_neg hp2, gi_nat, List.getD_eq_getElem?_getD]
theorem swp_perm {ys : List Int} {j : Nat} (h1 : 1 ≤ j) (h2 : j < ys.length) : (swp ys j).Perm ys := by
  have hsp : ys = ys.take (j - 1) ++ gi ys ((j : Int) - 1) :: gi ys j :: ys.drop (j + 1) := by
    have a : ys.drop (j - 1) = gi ys ((j : Int) - 1) :: ys.drop j := by
      rw [List.drop_eq_getElem_cons (by omega), show j - 1 + 1 = j by omega]
      congr 1
      rw [show ((j : Int) - 1) = ((j - 1 : Nat) : Int) by omega, gi_nat, List.getD_eq_getElem?_getD, List.getElem?_eq_getElem (by omega)]; rfl
    have b : ys.drop j = gi ys j :: ys.drop (j + 1) := by
      rw [List.drop_eq_getElem_cons h2]
      congr 1
      rw [gi_nat, List.getD_eq_getElem?_getD, List.getElem?_eq_getElem h2]; rfl
    rw [← b, ← a, List.take_append_drop]
  have hsw : swp ys j = ys.take (j - 1) ++ gi ys j :: gi ys ((j : Int) - 1) :: ys.drop (j + 1) := by
    refine gi_ext ?_ fun p hp => ?_
    · rw [swp_length]; simp; omega
    · rw [gi_swp h1 h2]
      have hl : (ys.take (j - 1)).length = j - 1 := by simp; omega
      have hr : ∀ (l : List Int), gi l (p : Int) = (l[p]?).getD 0 := fun l => by rw [gi_nat, List.getD_eq_getElem?_getD]
      rw [hr (_ ++ _), List.getElem?_append, hl]
      by_cases c1 : p < j - 1
      · rw [if_pos c1, if_neg (by omega), if_neg (by omega), List.getElem?_take_of_lt c1, hr]
      · rw [if_neg c1]
        by_cases c2 : p = j - 1
        · rw [if_pos c2, c2]; simp
        · rw [if_neg c2]
          by_cases c3 : p = j
          · rw [if_pos c3, c3, show j - (j - 1) = 0 + 1 by omega]; simp
          · rw [if_neg c3, show p - (j - 1) = (p - j - 1) + 1 + 1 by omega, List.getElem?_cons_succ, List.getElem?_cons_succ, List.getElem?_drop, hr, show j + 1 + (p - j - 1) = p by omega]
  rw [hsw]
  conv => rhs; rw [hsp]
  exact List.Perm.append_left _ (List.Perm.swap _ _ _)
def SortTo (ys : List Int) (i : Nat) : Prop := ∀ p q : Nat, p < q → q < i → gi ys p ≤ gi ys q
def SortBut (ys : List Int) (i j : Nat) : Prop := ∀ p q : Nat, p < q → q ≤ i → q ≠ j → gi ys p ≤ gi ys q
theorem sortBut_start {ys : List Int} {i : Nat} (h : SortTo ys i) : SortBut ys i i := fun p q hp hq hn => h p q hp (by omega)
theorem sortBut_end {ys : List Int} {i j : Nat} (h : SortBut ys i j) (hj : j = 0 ∨ gi ys ((j : Int) - 1) ≤ gi ys j) : SortTo ys (i + 1) := by
  intro p q hp hq
  by_cases e : q = j
  · subst e
    rcases hj with hj | hj
    · omega
    · by_cases e2 : p = q - 1
      · subst e2; rw [show (((q - 1 : Nat)) : Int) = (q : Int) - 1 by omega]; exact hj
      · have := h p (q - 1) (by omega) (by omega) (by omega)
        rw [show (((q - 1 : Nat)) : Int) = (q : Int) - 1 by omega] at this
        omega
  · exact h p q hp (by omega) e
theorem sortBut_step {ys : List Int} {i j : Nat} (h1 : 1 ≤ j) (h2 : j ≤ i) (h3 : i < ys.length) (h : SortBut ys i j) (hlt : gi ys j < gi ys ((j : Int) - 1)) : SortBut (swp ys j) i (j - 1) := by
  intro p q hp hq hn
  have hj2 : j < ys.length := by omega
  rw [gi_swp h1 hj2, gi_swp h1 hj2]
  have key : ∀ a b : Nat, a < b → b ≤ i → b ≠ j → gi ys a ≤ gi ys b := h
  have ej : ((j - 1 : Nat) : Int) = (j : Int) - 1 := by omega
  rw [if_neg hn]
  by_cases q1 : q = j
  · rw [if_pos q1]
    by_cases p1 : p = j - 1
    · rw [if_pos p1]; omega
    · rw [if_neg p1, if_neg (by omega)]
      have := key p (j - 1) (by omega) (by omega) (by omega)
      rwa [ej] at this
  · rw [if_neg q1]
    by_cases p1 : p = j - 1
    · rw [if_pos p1]; exact key j q (by omega) hq q1
    · rw [if_neg p1]
      by_cases p2 : p = j
      · rw [if_pos p2]
        have := key (j - 1) q (by omega) hq q1
        rwa [ej] at this
      · rw [if_neg p2]; exact key p q hp hq q1
end Go.Proofs.YtpdecefdhkhlnaaGreatDoor
set_option linter.unusedSimpArgs false
set_option linter.unusedVariables false
namespace Go.Proofs.YtpdecefdhkhlnaaGreatDoor
open Go.Ab
def sorted (xs : List Int) : List Int := xs.mergeSort (fun a b => decide (a ≤ b))
theorem sorted_perm (xs : List Int) : (sorted xs).Perm xs := List.mergeSort_perm _ _
theorem sorted_length (xs : List Int) : (sorted xs).length = xs.length := (sorted_perm xs).length_eq
theorem sorted_pw (xs : List Int) : (sorted xs).Pairwise (fun a b => a ≤ b) := by
  have := List.pairwise_mergeSort (le := fun a b : Int => decide (a ≤ b)) (by intro a b c; simp; omega) (by intro a b; simp; omega) xs
  exact this.imp (by intro a b h; simpa using h)
theorem gi_some {ys : List Int} {p : Nat} (h : p < ys.length) : gi ys p = ys[p] := by
  rw [gi_nat, List.getD_eq_getElem?_getD, List.getElem?_eq_getElem h]; rfl
theorem sorted_eq {xs ys : List Int} (hp : ys.Perm xs) (hs : SortTo ys ys.length) : ys = sorted xs := by
  refine List.Perm.eq_of_pairwise (le := fun a b => a ≤ b) (fun a b _ _ h1 h2 => by omega) ?_ (sorted_pw xs) (hp.trans (sorted_perm xs).symm)
  rw [List.pairwise_iff_getElem]
  intro i j hi hj hij
  have := hs i j hij hj
  rwa [gi_some hi, gi_some hj] at this
def med (xs : List Int) : Int := gi (sorted xs) (((xs.length : Int) - 1) / 2)
def cnt (xs : List Int) (v : Int) : Nat := xs.countP fun x => decide (x ≤ v)
theorem cnt_sorted (xs : List Int) (v : Int) : cnt xs v = cnt (sorted xs) v := ((sorted_perm xs).countP_eq _).symm
theorem cnt_ge {s : List Int} (hs : s.Pairwise (fun a b => a ≤ b)) {k : Nat} (hk : k < s.length) {v : Int} (h : s[k] ≤ v) : k + 1 ≤ cnt s v := by
  have e : s = s.take (k + 1) ++ s.drop (k + 1) := (List.take_append_drop _ _).symm
  unfold cnt
  rw [e, List.countP_append]
  have : (s.take (k + 1)).countP (fun x => decide (x ≤ v)) = (s.take (k + 1)).length := by
    rw [List.countP_eq_length]
    intro x hx
    obtain ⟨i, hi, rfl⟩ := List.getElem_of_mem hx
    have hi' : i < k + 1 := by have := hi; simp at this; omega
    rw [List.getElem_take]
    rw [List.pairwise_iff_getElem] at hs
    rcases Nat.lt_or_ge i k with h' | h'
    · have := hs i k (by omega) hk h'
      simp; omega
    · have : i = k := by omega
      subst this; simpa using h
  rw [this]
  simp; omega
theorem cnt_le {s : List Int} (hs : s.Pairwise (fun a b => a ≤ b)) {k : Nat} (hk : k < s.length) {v : Int} (h : v < s[k]) : cnt s v ≤ k := by
  have e : s = s.take k ++ s.drop k := (List.take_append_drop _ _).symm
  unfold cnt
  rw [e, List.countP_append]
  have h1 : (s.drop k).countP (fun x => decide (x ≤ v)) = 0 := by
    rw [List.countP_eq_zero]
    intro x hx
    obtain ⟨i, hi, rfl⟩ := List.getElem_of_mem hx
    rw [List.getElem_drop]
    rw [List.pairwise_iff_getElem] at hs
    rcases Nat.eq_zero_or_pos i with h' | h'
    · subst h'; simp; omega
    · have := hs k (k + i) hk (by simp at hi; omega) (by omega)
      simp; omega
  have h2 : (s.take k).countP (fun x => decide (x ≤ v)) ≤ k := Nat.le_trans List.countP_le_length (by simp; omega)
  omega
def MedTo (xs : List Int) (i : Nat) (best : Int) (found : Bool) : Prop :=
  (found = false ∧ best = 0 ∧ ∀ j : Nat, j < i → 2 * cnt xs (gi xs j) < xs.length) ∨
  (found = true ∧ (∃ j : Nat, j < i ∧ xs.length ≤ 2 * cnt xs (gi xs j) ∧ best = gi xs j) ∧ ∀ j : Nat, j < i → xs.length ≤ 2 * cnt xs (gi xs j) → best ≤ gi xs j)
theorem med_at {xs : List Int} (hn : 1 ≤ xs.length) : (xs.length - 1) / 2 < (sorted xs).length ∧ med xs = gi (sorted xs) ((xs.length - 1) / 2 : Nat) := by
  have := sorted_length xs
  refine ⟨by omega, ?_⟩
  unfold med
  congr 1
  omega
theorem medTo_end {xs : List Int} (hn : 1 ≤ xs.length) {best : Int} {found : Bool} (h : MedTo xs xs.length best found) : best = med xs := by
  obtain ⟨h1, h2⟩ := med_at hn
  have hs := sorted_pw xs
  have hl := sorted_length xs
  generalize hk : (xs.length - 1) / 2 = k at h1 h2
  have hm : med xs = (sorted xs)[k] := by rw [h2, gi_some h1]
  have hc : xs.length ≤ 2 * cnt xs (med xs) := by
    rw [cnt_sorted]
    have := cnt_ge hs h1 (v := med xs) (by rw [hm]; exact Int.le_refl _)
    omega
  have hmem : ∃ j : Nat, j < xs.length ∧ gi xs j = med xs := by
    have : (sorted xs)[k] ∈ xs := (sorted_perm xs).mem_iff.1 (List.getElem_mem h1)
    obtain ⟨j, hj, e⟩ := List.getElem_of_mem this
    exact ⟨j, hj, by rw [gi_some hj, e, hm]⟩
  have hlow : ∀ v, xs.length ≤ 2 * cnt xs v → med xs ≤ v := by
    intro v hv
    rcases Int.lt_or_le v (med xs) with h' | h'
    · rw [cnt_sorted] at hv
      have := cnt_le hs h1 (v := v) (by rw [← hm]; exact h')
      omega
    · exact h'
  obtain ⟨j, hj, e⟩ := hmem
  rcases h with ⟨_, _, h⟩ | ⟨_, ⟨j', hj', h3, h4⟩, h5⟩
  · have := h j hj
    rw [e] at this
    omega
  · have a := hlow best (by rw [h4]; exact h3)
    have b := h5 j hj (by rw [e]; exact hc)
    rw [e] at b
    omega
theorem sorted_mem {xs : List Int} (h : areSamples xs = true) : areSamples (sorted xs) = true := by
  unfold areSamples at *
  rw [List.all_eq_true] at *
  exact fun x hx => h x ((sorted_perm xs).mem_iff.1 hx)
def near (w : Int) (xs : List Int) (i : Nat) : List Int := (xs.drop (max 0 ((i : Int) - w)).toNat).take ((min (xs.length : Int) (i + w + 1)).toNat - (max 0 ((i : Int) - w)).toNat)
def dev (k w : Int) (xs : List Int) (i : Nat) : Int := bif k == 0 then ((gi xs i - med (near w xs i)).natAbs : Int) else ((second xs i).natAbs : Int)
def devs (k w : Int) (xs : List Int) : List Int := (List.range xs.length).map (dev k w xs)
def devsTo (k w : Int) (xs : List Int) (i : Nat) : List Int := (List.range i).map (dev k w xs)
theorem devsTo_succ (k w : Int) (xs : List Int) (i : Nat) : devsTo k w xs i ++ [dev k w xs i] = devsTo k w xs (i + 1) := by simp [devsTo, List.range_succ]
theorem devsTo_length (k w : Int) (xs : List Int) (i : Nat) : (devsTo k w xs i).length = i := by simp [devsTo]
theorem devs_length (k w : Int) (xs : List Int) : (devs k w xs).length = xs.length := by simp [devs]
theorem areSamples_sub {xs ys : List Int} (h : areSamples xs = true) (hs : ∀ y ∈ ys, y ∈ xs) : areSamples ys = true := by
  unfold areSamples at *
  rw [List.all_eq_true] at *
  exact fun y hy => h y (hs y hy)
theorem near_samples {w : Int} {xs : List Int} {i : Nat} (h : areSamples xs = true) : areSamples (near w xs i) = true :=
  areSamples_sub h fun y hy => List.mem_of_mem_drop (List.mem_of_mem_take hy)
theorem near_length {w : Int} {xs : List Int} {i : Nat} (hw : 0 ≤ w ∧ w ≤ 4) (hi : i < xs.length) : 1 ≤ (near w xs i).length ∧ (near w xs i).length ≤ 9 := by
  unfold near
  rw [List.length_take, List.length_drop]
  omega
theorem med_bound {xs : List Int} (h : areSamples xs = true) : -32767 ≤ med xs ∧ med xs ≤ 32767 := sample_gi (sorted_mem h) _
theorem dev_bound {k w : Int} {xs : List Int} (h : areSamples xs = true) (i : Nat) : 0 ≤ dev k w xs i ∧ dev k w xs i ≤ 131068 := by
  have h1 := med_bound (near_samples (w := w) (i := i) h)
  have h2 := sample_gi h i
  have h3 := second_bound h i
  unfold dev
  cases k == 0
  · rw [cond_false]; omega
  · rw [cond_true]; omega
end Go.Proofs.YtpdecefdhkhlnaaGreatDoor
set_option linter.unusedVariables false
set_option linter.unusedSimpArgs false
namespace Go.Proofs.YtpdecefdhkhlnaaGreatDoor
open Go.Ab
structure Run where
  lo : Int
  hi : Int
  pk : Int
  dv : Int
  deriving DecidableEq
def Run.cells (r : Run) : List Int := [r.lo, r.hi, r.pk, r.dv]
def flat (rs : List Run) : List Int := rs.flatMap Run.cells
theorem flat_cons (r : Run) (rs : List Run) : flat (r :: rs) = r.lo :: r.hi :: r.pk :: r.dv :: flat rs := rfl
theorem flat_append (rs ts : List Run) : flat (rs ++ ts) = flat rs ++ flat ts := by simp [flat]
theorem flat_length (rs : List Run) : (flat rs).length = rs.length * 4 := by
  induction rs with
  | nil => rfl
  | cons r rs ih => rw [flat_cons]; simp only [List.length_cons, ih]; omega
theorem flat_drop (rs : List Run) (i : Nat) : (flat rs).drop (i * 4) = flat (rs.drop i) := by
  induction i generalizing rs with
  | zero => simp
  | succ i ih =>
    cases rs with
    | nil => simp [flat]
    | cons r rs =>
      rw [flat_cons, show (i + 1) * 4 = i * 4 + 1 + 1 + 1 + 1 by omega]
      simp only [List.drop_succ_cons]
      exact ih rs
instance : Inhabited Run := ⟨⟨0, 0, 0, 0⟩⟩
theorem flat_at {rs : List Run} {i : Nat} (h : i < rs.length) : ((flat rs).drop (i * 4)).take 4 = rs[i].cells := by
  rw [flat_drop, List.drop_eq_getElem_cons h, flat_cons]
  rfl
def stepR (thr jn : Int) (rs : List Run) (i d : Int) : List Run :=
  bif decide (d ≤ thr) then rs else
  match rs with
  | [] => [⟨i, i, i, d⟩]
  | r :: l => bif decide (jn + 1 < i - r.hi) then ⟨i, i, i, d⟩ :: r :: l else ⟨r.lo, i, bif decide (r.dv < d) then i else r.pk, bif decide (r.dv < d) then d else r.dv⟩ :: l
theorem stepR_skip {thr jn : Int} {rs : List Run} {i d : Int} (h : decide (d ≤ thr) = true) : stepR thr jn rs i d = rs := by unfold stepR; rw [h]; rfl
theorem stepR_nil {thr jn : Int} {i d : Int} (h : decide (d ≤ thr) = false) : stepR thr jn [] i d = [⟨i, i, i, d⟩] := by unfold stepR; rw [h]; rfl
theorem stepR_new {thr jn : Int} {r : Run} {l : List Run} {i d : Int} (h : decide (d ≤ thr) = false) (h2 : decide (jn + 1 < i - r.hi) = true) : stepR thr jn (r :: l) i d = ⟨i, i, i, d⟩ :: r :: l := by unfold stepR; rw [h, cond_false]; simp only [h2, cond_true]
theorem stepR_peak {thr jn : Int} {r : Run} {l : List Run} {i d : Int} (h : decide (d ≤ thr) = false) (h2 : decide (jn + 1 < i - r.hi) = false) (h3 : decide (r.dv < d) = true) : stepR thr jn (r :: l) i d = ⟨r.lo, i, i, d⟩ :: l := by unfold stepR; rw [h, cond_false]; simp only [h2, h3, cond_true, cond_false]
theorem stepR_old {thr jn : Int} {r : Run} {l : List Run} {i d : Int} (h : decide (d ≤ thr) = false) (h2 : decide (jn + 1 < i - r.hi) = false) (h3 : decide (r.dv < d) = false) : stepR thr jn (r :: l) i d = ⟨r.lo, i, r.pk, r.dv⟩ :: l := by unfold stepR; rw [h, cond_false]; simp only [h2, h3, cond_true, cond_false]
def runsR (thr jn : Int) (f : Nat → Int) : Nat → List Run
  | 0 => []
  | i + 1 => stepR thr jn (runsR thr jn f i) i (f i)
theorem runsR_succ {thr jn : Int} {f : Nat → Int} {i : Nat} {rs ts : List Run} (h : runsR thr jn f i = rs) (hs : stepR thr jn rs i (f i) = ts) : runsR thr jn f (i + 1) = ts := by rw [← hs, ← h]; rfl
def runs (thr jn : Int) (f : Nat → Int) (n : Nat) : List Run := (runsR thr jn f n).reverse
theorem stepR_tail (thr jn : Int) (rs : List Run) (i d : Int) : rs.tail <:+ (stepR thr jn rs i d).tail := by
  unfold stepR
  cases decide (d ≤ thr)
  · rw [cond_false]
    cases rs with
    | nil => exact List.suffix_refl _
    | cons r l =>
      simp only
      cases decide (jn + 1 < i - r.hi)
      · rw [cond_false]; exact List.suffix_refl _
      · rw [cond_true]; exact List.suffix_cons _ _
  · rw [cond_true]; exact List.suffix_refl _
theorem runsR_tail (thr jn : Int) (f : Nat → Int) (i : Nat) : ∀ n, i ≤ n → (runsR thr jn f i).tail <:+ (runsR thr jn f n).tail := by
  intro n
  induction n with
  | zero => intro h; rw [show i = 0 by omega]; exact List.suffix_refl _
  | succ n ih =>
    intro h
    rcases Nat.lt_or_ge i (n + 1) with h' | h'
    · exact (ih (by omega)).trans (stepR_tail _ _ _ _ _)
    · rw [show i = n + 1 by omega]; exact List.suffix_refl _
theorem suffix_at {l L : List Run} {r : Run} (h : r :: l <:+ L) : L.reverse[l.length]? = some r := by
  obtain ⟨t, rfl⟩ := h
  rw [List.reverse_append, List.reverse_cons, List.append_assoc, List.getElem?_append_right (by simp)]
  simp
theorem closed_at {thr jn : Int} {f : Nat → Int} {i n : Nat} {r r' : Run} {l : List Run} (hi : i + 1 ≤ n) (h : runsR thr jn f i = r :: l) (hn : runsR thr jn f (i + 1) = r' :: r :: l) : (runs thr jn f n)[l.length]? = some r := by
  have := runsR_tail thr jn f (i + 1) n hi
  rw [hn, List.tail_cons] at this
  exact suffix_at (this.trans (List.tail_suffix _))
theorem last_at {thr jn : Int} {f : Nat → Int} {n : Nat} {r : Run} {l : List Run} (h : runsR thr jn f n = r :: l) : (runs thr jn f n)[l.length]? = some r := by
  unfold runs; rw [h]; exact suffix_at (List.suffix_refl _)
theorem stepR_length (thr jn : Int) (rs : List Run) (i d : Int) : (stepR thr jn rs i d).length ≤ rs.length + 1 := by
  unfold stepR
  cases decide (d ≤ thr)
  · rw [cond_false]
    cases rs with
    | nil => simp
    | cons r l =>
      simp only
      cases decide (jn + 1 < i - r.hi)
      · simp
      · simp
  · simp
theorem runsR_length (thr jn : Int) (f : Nat → Int) (n : Nat) : (runsR thr jn f n).length ≤ n := by
  induction n with
  | zero => exact Nat.le_refl _
  | succ n ih => exact Nat.le_trans (stepR_length _ _ _ _ _) (by omega)
theorem runs_length (thr jn : Int) (f : Nat → Int) (n : Nat) : (runs thr jn f n).length ≤ n := by
  unfold runs; rw [List.length_reverse]; exact runsR_length _ _ _ _
def RunOk (n : Nat) (c : Int) (r : Run) : Prop := 0 ≤ r.lo ∧ r.lo ≤ r.hi ∧ r.hi < n ∧ r.lo ≤ r.pk ∧ r.pk ≤ r.hi ∧ 0 ≤ r.dv ∧ r.dv ≤ c
theorem RunOk.mono {n m : Nat} {c : Int} {r : Run} (h : RunOk n c r) (hm : n ≤ m) : RunOk m c r := by unfold RunOk at *; omega
theorem runsR_ok {thr jn : Int} {f : Nat → Int} {c : Int} : ∀ n, (∀ i, i < n → 0 ≤ f i ∧ f i ≤ c) → ∀ r ∈ runsR thr jn f n, RunOk n c r := by
  intro n
  induction n with
  | zero => intro _ r hr; simp [runsR] at hr
  | succ n ih =>
    intro hf
    have ih := ih (fun i hi => hf i (by omega))
    have hn := hf n (by omega)
    unfold runsR stepR
    cases decide (f n ≤ thr)
    · rw [cond_false]
      cases hrs : runsR thr jn f n with
      | nil =>
        intro r hr
        simp at hr
        subst hr
        unfold RunOk; dsimp only; omega
      | cons q l =>
        rw [hrs] at ih
        simp only
        have hq := ih q (by simp)
        cases decide (jn + 1 < (n : Int) - q.hi)
        · rw [cond_false]
          intro r hr
          simp at hr
          rcases hr with rfl | hr
          · unfold RunOk at *
            dsimp only
            cases decide (q.dv < f n) <;> simp only [cond_true, cond_false] <;> omega
          · exact (ih r (by simp [hr])).mono (by omega)
        · rw [cond_true]
          intro r hr
          simp only [List.mem_cons] at hr
          rcases hr with rfl | hr
          · unfold RunOk; dsimp only; omega
          · exact (ih r (by simpa using hr)).mono (by omega)
    · rw [cond_true]
      intro r hr
      exact (ih r hr).mono (by omega)
def isClick (most : Int) (r : Run) : Bool := decide (r.hi - r.lo < most)
def someR (most : Int) (clicks : Bool) (rs : List Run) : List Run := rs.filter fun r => isClick most r == clicks
theorem someR_take {most : Int} {c : Bool} {rs : List Run} {i : Nat} (h : i < rs.length) : someR most c (rs.take (i + 1)) = bif isClick most rs[i] == c then someR most c (rs.take i) ++ [rs[i]] else someR most c (rs.take i) := by
  have : rs.take (i + 1) = rs.take i ++ [rs[i]] := by rw [List.take_add_one, List.getElem?_eq_getElem h]; rfl
  rw [this]
  unfold someR
  rw [List.filter_append]
  cases hb : isClick most rs[i] == c
  · simp [hb]
  · simp [hb]
theorem someR_length (most : Int) (c : Bool) (rs : List Run) : (someR most c rs).length ≤ rs.length := List.length_filter_le _ _
end Go.Proofs.YtpdecefdhkhlnaaGreatDoor
set_option linter.unusedSimpArgs false
set_option linter.unusedVariables false
namespace Go.Proofs.YtpdecefdhkhlnaaGreatDoor
open Go.Ab
def inTab (n : Int) : Bool := within n (-65534) 65534
def humErr (p f : Int) (ts : List Int) : Int := bif !(within p 1 64 && within f 0 (p - 1)) then 2 else bif !decide ((ts.length : Int) = p) then 10 else bif ts.all inTab then 0 else 2
theorem humErr_first (p f : Int) (ts : List Int) : humErr p f ts = firstE [unlessE (within p 1 64 && within f 0 (p - 1)) 2, unlessE (decide ((ts.length : Int) = p)) 10, unlessE (ts.all inTab) 2] := by
  unfold humErr firstE firstE firstE firstE unlessE
  cases within p 1 64 && within f 0 (p - 1) <;> cases decide ((ts.length : Int) = p) <;> cases ts.all inTab <;> rfl
theorem humErr_zero {p f : Int} {ts : List Int} (h : humErr p f ts = 0) : (1 ≤ p ∧ p ≤ 64) ∧ (0 ≤ f ∧ f ≤ p - 1) ∧ (ts.length : Int) = p ∧ ts.all inTab = true := by
  unfold humErr at h
  cases h1 : within p 1 64 && within f 0 (p - 1) <;> rw [h1] at h
  · simp at h
  · cases h2 : decide ((ts.length : Int) = p) <;> rw [h2] at h
    · simp at h
    · cases h3 : ts.all inTab <;> rw [h3] at h
      · simp at h
      · simp only [Bool.and_eq_true, within_iff] at h1
        exact ⟨h1.1, h1.2, of_decide_eq_true h2, rfl⟩
end Go.Proofs.YtpdecefdhkhlnaaGreatDoor
set_option maxRecDepth 100000
set_option maxHeartbeats 4000000
set_option linter.unusedSimpArgs false
set_option linter.unusedVariables false
set_option linter.unusedSectionVars false
namespace Go.Proofs.YtpdecefdhkhlnaaGreatDoor
open Go.Ab Go.RowKit
variable [Dr]
theorem bl : (∀ (p : Prop) [Decidable p], (decide p = true) = p) ∧ (∀ (p : Prop) [Decidable p], (decide p = false) = ¬p) ∧ (∀ b : Bool, ((!b) = true) = (b = false)) ∧ (∀ b : Bool, ((!b) = false) = (b = true)) ∧ (∀ {α : Type} [BEq α] [LawfulBEq α] {a b : α}, (a == b) = true ↔ a = b) ∧ (∀ {α : Type} [BEq α] [LawfulBEq α] {a b : α}, (a == b) = false ↔ a ≠ b) ∧ (∀ {α : Type} [BEq α] [LawfulBEq α] {a b : α}, (a != b) = true ↔ a ≠ b) ∧ (∀ {α : Type} [BEq α] [LawfulBEq α] {a b : α}, (a != b) = false ↔ a = b) ∧ (∀ {α : Type} (a b : α), (a ≠ b) = ¬a = b) ∧ (∀ {a b : Int}, ¬a ≤ b ↔ b < a) ∧ (∀ {a b : Int}, ¬a < b ↔ b ≤ a) ∧ (∀ a b : Bool, ((a && b) = true) = (a = true ∧ b = true)) ∧ (∀ a b : Bool, ((a || b) = false) = (a = false ∧ b = false)) ∧ (∀ {n lo hi : Int}, within n lo hi = true ↔ lo ≤ n ∧ n ≤ hi) ∧ (∀ {n lo hi : Int}, within n lo hi = false ↔ n < lo ∨ hi < n) :=
  ⟨fun _ _ => decide_eq_true_eq, fun _ _ => propext decide_eq_false_iff_not, fun b => by simp, fun b => by simp, beq_iff_eq, beq_eq_false_iff_ne, bne_iff_ne, bne_eq_false_iff_eq, fun _ _ => rfl, Int.not_le, Int.not_lt, fun a b => by simp, fun a b => by simp, within_iff, within_false⟩
theorem lnn : (∀ {α : Type} (a : α) (l : List α), (a :: l).length = l.length + 1) ∧ (∀ {α : Type}, ([] : List α).length = 0) ∧ (∀ {α : Type} (l : List α) (i : Nat) (a : α), (l.set i a).length = l.length) ∧ (∀ xs : List Int, (ints xs).length = xs.length) :=
  ⟨fun _ _ => rfl, rfl, fun _ _ _ => List.length_set, fun _ => ints_length _⟩
theorem spl : (∀ n : Int, (-9223372036854775808 ≤ n ∧ n ≤ 9223372036854775807) → Go.IntKind.i64.wrap n = n) ∧ (∀ {xs : List Int} {i : Int}, 0 ≤ i → i < xs.length → (ints xs)[i.toNat]? = some (.v (.int .i64 (gi xs i)))) ∧ (∀ n : Nat, n * 1 = n) ∧ (∀ {xs : List Int} {i : Nat} (y : Int), i < xs.length → splice (ints xs) i [.v (.int .i64 y)] = ints (xs.set i y)) ∧ (∀ {cs xs : List AV}, xs.length = cs.length → splice cs 0 xs = xs) ∧ (∀ {α : Type} {a b : α} {l : List α}, (a :: l).set 0 b = b :: l) ∧ (∀ {α : Type} {a b : α} {l : List α} {n : Nat}, (a :: l).set (n + 1) b = a :: l.set n b) :=
  ⟨IntWalk.i64_in, ints_at, Nat.mul_one, ints_splice, splice_all, rfl, rfl⟩
theorem sbt {a b : AV} {n : Nat} (h : a = b) : Sb (.tu [.v (.slice none 0 0), a]) (.tu [.sl n 0 [], b]) := Sb.tuL ⟨Sb.nil _, Sb.of_eq h, True.intro⟩
variable {mu : List Nat} {N : St → Prop} {X : Nat → St → Prop} {R : St → Prop} {σ : St}
theorem rgA {id : Nat} {l : List Go.Oper} (h : ∀ K : St → Prop, (∀ σ', N σ' → K σ') → wpA ev mu l.toArray l σ K) : VC ev mu (.region id l.toArray false) ⟨N, X, R⟩ σ := v_region evOk h
theorem rgB {id : Nat} {l : List Go.Oper} (hb : drawB false mu l (headStill mu l) = true) (h : ∀ K : St → Prop, (∀ σ', N σ' → K σ') → wpA ev mu l.toArray l σ K) : VC ev mu (.region id l.toArray true) ⟨N, X, R⟩ σ := v_draw' evOk hb h
theorem rgC {id : Nat} {l : List Go.Oper} (hb : drawB true mu l (headStill mu l) = true) (h : ∀ K : St → Prop, (∀ σ', N σ' → K σ') → wpA ev mu l.toArray l σ K) : VC ev mu (.region id l.toArray true) ⟨N, X, R⟩ σ := v_drawF evOk rfl hb h
theorem c_Within (n lo hi : Int) : Pure Tryz.prog 7 [iv n, iv lo, iv hi] (.v (.bool (within n lo hi))) := by
  refine p_intro evOk [] Tryz.func7 rfl Tryz.call7 ?_
  repeat' first
   | refine v_seq ?_ | refine v_block ?_ | refine v_ret ?_ | refine v_skip ?_ | (refine v_exit ?_; repeat' first | refine xB_eq ?_ | refine xB_ne rfl ?_)
   | ((first | refine rgA fun K hK => ?_ | refine rgB rfl fun K hK => ?_ | refine rgC rfl fun K hK => ?_); simp only [go_sem,simprocAttr])
   | (simp (disch := first | omega | rfl | (simp only [lnn]; omega)) only [spl])
   | (refine hK _ ?_; clear hK K)
   | (refine gdB_intro (fun h => ?_) (fun h => ?_) <;> simp only [go_sem,simprocAttr,h] <;> (have h' := h; try simp only [bl] at h'))
   | (refine v_cond rfl (fun h => ?_) (fun h => ?_) <;> first | (exact Bool.noConfusion h) | (have h' := h; try simp only [bl] at h'))
   | (refine r_ret ?_; simp only [resL, resA, Tryz.f7, lk_cons', lk_nil', Nat.reduceBEq]; first | exact ⟨rfl, Sb.nil _, rfl⟩ | refine ⟨rfl, sbt ?_, rfl⟩ | refine ⟨rfl, Sb.of_eq ?_, rfl⟩)
   | (refine And.intro (by first | exact True.intro | omega | rfl | exact Nat.le_of_ble_eq_true rfl | (simp only [lnn]; omega) | exact List.forall_mem_nil _ | (refine List.forall_mem_cons.2 ⟨⟨_, rfl⟩, ?_⟩; repeat' first | exact List.forall_mem_nil _ | refine List.forall_mem_cons.2 ⟨⟨_, rfl⟩, ?_⟩)) ?_)
   | fail
  all_goals simp only [within, h, Bool.true_and, Bool.false_and]
theorem c_Ints (xs ys : List Int) (hl : Len xs.length) : Pure Tryz.prog 21 [isl xs, isl ys] (.v (.bool (decide (xs = ys)))) := by
  refine p_intro evOk [] Tryz.func21 rfl Tryz.call21 ?_
  unfold Len at hl
  repeat' first
   | refine v_seq ?_ | refine v_block ?_ | refine v_ret ?_ | refine v_skip ?_ | (refine v_exit ?_; repeat' first | refine xB_eq ?_ | refine xB_ne rfl ?_)
   | ((first | refine rgA fun K hK => ?_ | refine rgB rfl fun K hK => ?_ | refine rgC rfl fun K hK => ?_); simp only [go_sem,simprocAttr])
   | (simp (disch := first | omega | rfl | (simp only [lnn]; omega)) only [spl])
   | (refine hK _ ?_; clear hK K)
   | (refine gdB_intro (fun h => ?_) (fun h => ?_) <;> simp only [go_sem,simprocAttr,h] <;> (have h' := h; try simp only [bl] at h'))
   | (refine v_cond rfl (fun h => ?_) (fun h => ?_) <;> first | (exact Bool.noConfusion h) | (have h' := h; try simp only [bl] at h'))
   | (refine r_ret ?_; simp only [resL, resA, Tryz.f21, lk_cons', lk_nil', Nat.reduceBEq]; first | exact ⟨rfl, Sb.nil _, rfl⟩ | refine ⟨rfl, sbt ?_, rfl⟩ | refine ⟨rfl, Sb.of_eq ?_, rfl⟩)
   | (refine And.intro (by first | exact True.intro | omega | rfl | exact Nat.le_of_ble_eq_true rfl | (simp only [lnn]; omega) | exact List.forall_mem_nil _ | (refine List.forall_mem_cons.2 ⟨⟨_, rfl⟩, ?_⟩; repeat' first | exact List.forall_mem_nil _ | refine List.forall_mem_cons.2 ⟨⟨_, rfl⟩, ?_⟩)) ?_)
   | fail
  · rw [decide_eq_false fun e => h' (by rw [e])]
  refine v_loop (T := Nat) (fun i => ⟨[(0, isl xs), (1, isl ys), (5, iv i)], emp, 0, (26, 0, 0)⟩) (fun i => i ≤ xs.length ∧ ∀ j : Nat, j < i → gi xs j = gi ys j) (fun i => xs.length - i) 0 ⟨by omega, by omega⟩ (by (refine ent_eq ?_ rfl rfl rfl; repeat' first | exact trivial | refine ⟨?_, ?_⟩ | rfl)) ?_
  rintro i ⟨hi, hP⟩
  repeat' first
   | refine v_seq ?_ | refine v_block ?_ | refine v_ret ?_ | refine v_skip ?_ | (refine v_exit ?_; repeat' first | refine xB_eq ?_ | refine xB_ne rfl ?_)
   | ((first | refine rgA fun K hK => ?_ | refine rgB rfl fun K hK => ?_ | refine rgC rfl fun K hK => ?_); simp only [go_sem,simprocAttr])
   | (simp (disch := first | omega | rfl | (simp only [lnn]; omega)) only [spl])
   | (refine hK _ ?_; clear hK K)
   | (refine gdB_intro (fun h => ?_) (fun h => ?_) <;> simp only [go_sem,simprocAttr,h] <;> (have h' := h; try simp only [bl] at h'))
   | (refine v_cond rfl (fun h => ?_) (fun h => ?_) <;> first | (exact Bool.noConfusion h) | (have h' := h; try simp only [bl] at h'))
   | (refine r_ret ?_; simp only [resL, resA, Tryz.f21, lk_cons', lk_nil', Nat.reduceBEq]; first | exact ⟨rfl, Sb.nil _, rfl⟩ | refine ⟨rfl, sbt ?_, rfl⟩ | refine ⟨rfl, Sb.of_eq ?_, rfl⟩)
   | (refine And.intro (by first | exact True.intro | omega | rfl | exact Nat.le_of_ble_eq_true rfl | (simp only [lnn]; omega) | exact List.forall_mem_nil _ | (refine List.forall_mem_cons.2 ⟨⟨_, rfl⟩, ?_⟩; repeat' first | exact List.forall_mem_nil _ | refine List.forall_mem_cons.2 ⟨⟨_, rfl⟩, ?_⟩)) ?_)
   | fail
  · rw [decide_eq_false fun e => h' (by rw [e])]
  · exact ⟨i + 1, by (refine ent_eq ?_ rfl rfl rfl; repeat' first | exact trivial | refine ⟨?_, ?_⟩ | rfl), ⟨by omega, below_succ hP h'⟩, by omega⟩
  · rw [decide_eq_true (gi_ext (by omega) fun j hj => hP j (by omega))]
theorem c_CopyInts (xs : List Int) (hl : Len xs.length) : Pure Tryz.prog 9 [isl xs] (isl xs) := by
  refine p_intro evOk [3, 5] Tryz.func9 rfl Tryz.call9 ?_
  unfold Len at hl
  repeat' first
   | refine v_seq ?_ | refine v_block ?_ | refine v_ret ?_ | refine v_skip ?_ | (refine v_exit ?_; repeat' first | refine xB_eq ?_ | refine xB_ne rfl ?_)
   | ((first | refine rgA fun K hK => ?_ | refine rgB rfl fun K hK => ?_ | refine rgC rfl fun K hK => ?_); simp only [go_sem,simprocAttr])
   | (simp (disch := first | omega | rfl | (simp only [lnn]; omega)) only [spl])
   | (refine hK _ ?_; clear hK K)
   | (refine gdB_intro (fun h => ?_) (fun h => ?_) <;> simp only [go_sem,simprocAttr,h] <;> (have h' := h; try simp only [bl] at h'))
   | (refine v_cond rfl (fun h => ?_) (fun h => ?_) <;> first | (exact Bool.noConfusion h) | (have h' := h; try simp only [bl] at h'))
   | (refine r_ret ?_; simp only [resL, resA, Tryz.f9, lk_cons', lk_nil', Nat.reduceBEq]; first | exact ⟨rfl, Sb.nil _, rfl⟩ | refine ⟨rfl, sbt ?_, rfl⟩ | refine ⟨rfl, Sb.of_eq ?_, rfl⟩)
   | (refine And.intro (by first | exact True.intro | omega | rfl | exact Nat.le_of_ble_eq_true rfl | (simp only [lnn]; omega) | exact List.forall_mem_nil _ | (refine List.forall_mem_cons.2 ⟨⟨_, rfl⟩, ?_⟩; repeat' first | exact List.forall_mem_nil _ | refine List.forall_mem_cons.2 ⟨⟨_, rfl⟩, ?_⟩)) ?_)
   | (refine r_freeze 1 rfl (by simp only [ints_plain]) ?_; refine r_ret ?_; simp (disch := first | omega | simp) only [fzF, fz_isl, fz_other, resL, resA, Tryz.f9, lk_cons', lk_nil', Nat.reduceBEq]; refine ⟨rfl, Sb.of_eq ?_, rfl⟩)
   | fail
theorem c_RulesErr (k w t j m p : Int) : Pure Tryz.prog 29 [.ag [iv k, iv w, iv t, iv j, iv m, iv p]] (iv (rulesErr k w t j m p)) := by
  refine p_intro evOk [] Tryz.func29 rfl Tryz.call29 ?_
  repeat' first
   | refine v_seq ?_ | refine v_block ?_ | refine v_ret ?_ | refine v_skip ?_ | (refine v_exit ?_; repeat' first | refine xB_eq ?_ | refine xB_ne rfl ?_)
   | ((first | refine rgA fun K hK => ?_ | refine rgB rfl fun K hK => ?_ | refine rgC rfl fun K hK => ?_); simp only [go_sem,simprocAttr])
   | (simp (disch := first | omega | rfl | (simp only [lnn]; omega)) only [spl])
   | (refine hK _ ?_; clear hK K)
   | (refine gdB_intro (fun h => ?_) (fun h => ?_) <;> simp only [go_sem,simprocAttr,h] <;> (have h' := h; try simp only [bl] at h'))
   | (refine v_cond rfl (fun h => ?_) (fun h => ?_) <;> first | (exact Bool.noConfusion h) | (have h' := h; try simp only [bl] at h'))
   | (refine r_ret ?_; simp only [resL, resA, Tryz.f29, lk_cons', lk_nil', Nat.reduceBEq]; first | exact ⟨rfl, Sb.nil _, rfl⟩ | refine ⟨rfl, sbt ?_, rfl⟩ | refine ⟨rfl, Sb.of_eq ?_, rfl⟩)
   | (refine And.intro (by first | exact True.intro | omega | rfl | exact Nat.le_of_ble_eq_true rfl | (simp only [lnn]; omega) | exact List.forall_mem_nil _ | (refine List.forall_mem_cons.2 ⟨⟨_, rfl⟩, ?_⟩; repeat' first | exact List.forall_mem_nil _ | refine List.forall_mem_cons.2 ⟨⟨_, rfl⟩, ?_⟩)) ?_)
   | ((first | refine call_pure' (c_Within _ _ _) rfl ?_); simp only [go_sem,simprocAttr])
   | fail
  all_goals simp_all [rulesErr]
theorem c_Size (n : Int) (h : -9223372036854775807 ≤ n ∧ n ≤ 9223372036854775807) : Pure Tryz.prog 100 [iv n] (iv n.natAbs) := by
  refine p_intro evOk [] Tryz.func100 rfl Tryz.call100 ?_
  repeat' first
   | refine v_seq ?_ | refine v_block ?_ | refine v_ret ?_ | refine v_skip ?_ | (refine v_exit ?_; repeat' first | refine xB_eq ?_ | refine xB_ne rfl ?_)
   | ((first | refine rgA fun K hK => ?_ | refine rgB rfl fun K hK => ?_ | refine rgC rfl fun K hK => ?_); simp only [go_sem,simprocAttr])
   | (simp (disch := first | omega | rfl | (simp only [lnn]; omega)) only [spl])
   | (refine hK _ ?_; clear hK K)
   | (refine gdB_intro (fun h => ?_) (fun h => ?_) <;> simp only [go_sem,simprocAttr,h] <;> (have h' := h; try simp only [bl] at h'))
   | (refine v_cond rfl (fun h => ?_) (fun h => ?_) <;> first | (exact Bool.noConfusion h) | (have h' := h; try simp only [bl] at h'))
   | (refine r_ret ?_; simp only [resL, resA, Tryz.f100, lk_cons', lk_nil', Nat.reduceBEq]; first | exact ⟨rfl, Sb.nil _, rfl⟩ | refine ⟨rfl, sbt ?_, rfl⟩ | refine ⟨rfl, Sb.of_eq ?_, rfl⟩)
   | (refine And.intro (by first | exact True.intro | omega | rfl | exact Nat.le_of_ble_eq_true rfl | (simp only [lnn]; omega) | exact List.forall_mem_nil _ | (refine List.forall_mem_cons.2 ⟨⟨_, rfl⟩, ?_⟩; repeat' first | exact List.forall_mem_nil _ | refine List.forall_mem_cons.2 ⟨⟨_, rfl⟩, ?_⟩)) ?_)
   | fail
  refine iv_eq ?_
  by_cases h : n < 0 - n
  · rw [decide_eq_true h, cond_true]; omega
  · rw [decide_eq_false h, cond_false]; omega
end Go.Proofs.YtpdecefdhkhlnaaGreatDoor

/- Chapter 5: what its functions compute, in plain Lean. -/
import Derived.Test.YtbobgnkohnbonaaAbSimp
set_option linter.unusedSimpArgs false
set_option linter.unusedVariables false
namespace Go.Proofs.Ytbobgnkohnbonaa
open Go.Ab

def Len (n : Nat) : Prop := n ≤ 1099511627776

theorem len_lit {n : Nat} (h : Nat.ble n 1099511627776 = true) : Len n := Nat.le_of_ble_eq_true h

def within (n lo hi : Int) : Bool := decide (lo ≤ n) && decide (n ≤ hi)
def isSample (n : Int) : Bool := within n (-32767) 32767
def areSamples (xs : List Int) : Bool := xs.all isSample
def rulesErr (k w t j m p : Int) : Int :=
  bif !within k 0 1 then 15 else bif decide (k = 0) && !within w 1 4 then 2 else bif decide (k = 1) && decide (w ≠ 0) then 3 else
  bif !within t 0 131068 || !within j 2 8 || !within m 1 8 || !within p 0 100 then 2 else 0
def signalErr (xs : List Int) : Int := bif decide (200 < xs.length) then 8 else bif areSamples xs then 0 else 2

/-- The second difference at an index. -/
def second (xs : List Int) (i : Int) : Int := bif decide (i < 1) || decide ((xs.length : Int) - 2 < i) then 0 else gi xs (i - 1) - 2 * gi xs i + gi xs (i + 1)
/-- The sum of f 0, .., f (n - 1). -/
def sumTo (f : Nat → Int) : Nat → Int
  | 0 => 0
  | n + 1 => sumTo f n + f n
def energy (xs : List Int) : Int := sumTo (fun i => second xs i * second xs i) xs.length

theorem gi_ext {xs ys : List Int} (h : xs.length = ys.length) (h2 : ∀ j : Nat, j < xs.length → gi xs j = gi ys j) : xs = ys := by
  refine List.ext_getElem h fun i h1 h3 => ?_
  have := h2 i h1
  simpa [gi, h1, h3] using this

theorem within_iff {n lo hi : Int} : within n lo hi = true ↔ lo ≤ n ∧ n ≤ hi := by simp [within]
theorem within_false {n lo hi : Int} : within n lo hi = false ↔ n < lo ∨ hi < n := by
  unfold within
  by_cases h1 : lo ≤ n <;> by_cases h2 : n ≤ hi <;> simp [h1, h2] <;> omega
theorem sample_gi {xs : List Int} (h : areSamples xs = true) (i : Int) : -32767 ≤ gi xs i ∧ gi xs i ≤ 32767 := by
  unfold gi
  rw [List.getD_eq_getElem?_getD]
  cases e : xs[i.toNat]? with
  | none => simp
  | some x =>
    have := List.all_eq_true.1 h x (List.mem_of_getElem? e)
    exact within_iff.1 this

theorem second_bound {xs : List Int} (h : areSamples xs = true) (i : Int) : -131068 ≤ second xs i ∧ second xs i ≤ 131068 := by
  unfold second
  have h1 := sample_gi h (i - 1)
  have h2 := sample_gi h i
  have h3 := sample_gi h (i + 1)
  cases decide (i < 1) || decide ((xs.length : Int) - 2 < i)
  · simp only [cond_false]; omega
  · simp

theorem sumTo_bound {f : Nat → Int} {n : Nat} {c : Int} (h : ∀ i, i < n → 0 ≤ f i ∧ f i ≤ c) : 0 ≤ sumTo f n ∧ sumTo f n ≤ n * c := by
  induction n with
  | zero => simp [sumTo]
  | succ n ih =>
    have h1 := ih fun i hi => h i (by omega)
    have h2 := h n (by omega)
    simp only [sumTo]
    rw [show (((n + 1 : Nat) : Int)) * c = n * c + c by rw [Int.natCast_succ, Int.add_mul, Int.one_mul]]
    omega

theorem sq_bound {a c : Int} (h1 : -c ≤ a) (h2 : a ≤ c) : 0 ≤ a * a ∧ a * a ≤ c * c := by
  rcases Int.le_total 0 a with h | h
  · exact ⟨Int.mul_nonneg h h, Int.mul_le_mul h2 h2 h (by omega)⟩
  · have : a * a = (-a) * (-a) := by rw [Int.neg_mul_neg]
    rw [this]
    exact ⟨Int.mul_nonneg (by omega) (by omega), Int.mul_le_mul (by omega) (by omega) (by omega) (by omega)⟩

theorem iv_eq {a b : Int} (h : a = b) : AV.v (.int .i64 a) = iv b := by rw [h]
theorem bv_eq {a b : Bool} (h : a = b) : AV.v (.bool a) = .v (.bool b) := by rw [h]

theorem tmod_bound {n b : Int} (hb : 0 < b) : -b < n.tmod b ∧ n.tmod b < b := by
  have h1 := Int.tmod_lt_of_pos n hb
  refine ⟨?_, h1⟩
  have h2 := Int.tmod_lt_of_pos (-n) hb
  rw [Int.neg_tmod] at h2
  omega
theorem floor_eq {n b : Int} (hb : 0 < b) : n / b = bif decide (n.tmod b < 0) then n.tdiv b - 1 else n.tdiv b := by
  have h0 := Int.mul_tdiv_add_tmod n b
  obtain ⟨h1, h2⟩ := tmod_bound (n := n) hb
  by_cases h : n.tmod b < 0
  · rw [decide_eq_true h, cond_true]
    refine ((Int.ediv_emod_unique (r := n.tmod b + b) hb).2 ⟨?_, by omega, by omega⟩).1
    rw [Int.mul_sub]; omega
  · rw [decide_eq_false h, cond_false]
    exact ((Int.ediv_emod_unique (r := n.tmod b) hb).2 ⟨by omega, by omega, h2⟩).1
theorem tdiv_bound {n b c : Int} (hb : 0 < b) (h : -c ≤ n ∧ n ≤ c) : -c ≤ n.tdiv b ∧ n.tdiv b ≤ c := by
  have h1 : (n.tdiv b).natAbs ≤ n.natAbs := by rw [Int.natAbs_tdiv]; exact Nat.div_le_self _ _
  omega

def unlessE (ok : Bool) (e : Int) : Int := bif ok then 0 else e
def firstE : List Int → Int
  | [] => 0
  | e :: l => bif e != 0 then e else firstE l
theorem firstE_drop {es : List Int} {i : Nat} (hi : i < es.length) : firstE (es.drop i) = bif gi es i != 0 then gi es i else firstE (es.drop (i + 1)) := by
  rw [List.drop_eq_getElem_cons hi, firstE]
  simp [gi, hi]

/-- The first index at which p holds, -1 if there is none. -/
def idxF (p : Int → Bool) (xs : List Int) : Int :=
  match xs.findIdx? p with
  | some i => i
  | none => -1
theorem idxF_at {p : Int → Bool} {xs : List Int} {i : Nat} (hi : i < xs.length) (h : p (gi xs i) = true) (hb : ∀ j : Nat, j < i → p (gi xs j) = false) : idxF p xs = i := by
  unfold idxF
  have : xs.findIdx? p = some i := by
    rw [List.findIdx?_eq_some_iff_getElem]
    refine ⟨hi, by simpa [gi, hi] using h, fun j hj => ?_⟩
    have h1 := hb j hj
    have h2 : j < xs.length := by omega
    have : gi xs j = xs[j] := by simp [gi, h2]
    rw [this] at h1
    simp [h1]
  rw [this]
theorem idxF_none {p : Int → Bool} {xs : List Int} (h : ∀ j : Nat, j < xs.length → p (gi xs j) = false) : idxF p xs = -1 := by
  unfold idxF
  have : xs.findIdx? p = none := by
    rw [List.findIdx?_eq_none_iff]
    intro x hx
    obtain ⟨j, hj, rfl⟩ := List.getElem_of_mem hx
    have := h j hj
    simpa [gi, hj] using this
  rw [this]
theorem idxF_any (p : Int → Bool) (xs : List Int) : decide (0 ≤ idxF p xs) = xs.any p := by
  unfold idxF
  cases e : xs.findIdx? p with
  | none =>
    rw [List.findIdx?_eq_none_iff] at e
    have : xs.any p = false := by
      rw [Bool.eq_false_iff]
      intro h
      obtain ⟨x, hx, hp⟩ := List.any_eq_true.1 h
      rw [e x hx] at hp; cases hp
    rw [this]; rfl
  | some i =>
    rw [List.findIdx?_eq_some_iff_getElem] at e
    obtain ⟨h1, h2, _⟩ := e
    have : xs.any p = true := List.any_eq_true.2 ⟨_, List.getElem_mem h1, h2⟩
    rw [this]; simp
theorem any_not_all (p : Int → Bool) (xs : List Int) : xs.any (fun x => !p x) = !xs.all p := by
  induction xs with
  | nil => rfl
  | cons x l ih => simp [ih]

theorem second_within (xs : List Int) (i : Int) : second xs i = bif !within i 1 ((xs.length : Int) - 2) then 0 else gi xs (i - 1) - 2 * gi xs i + gi xs (i + 1) := by
  unfold second
  congr 1
  unfold within
  by_cases h1 : 1 ≤ i <;> by_cases h2 : i ≤ (xs.length : Int) - 2 <;> simp [h1, h2] <;> omega

theorem signalErr_eq (xs : List Int) : signalErr xs = firstE [unlessE (decide ((xs.length : Int) ≤ 200)) 8, unlessE (areSamples xs) 2] := by
  unfold signalErr
  by_cases h : xs.length ≤ 200
  · rw [decide_eq_false (by omega), decide_eq_true (by omega)]; cases areSamples xs <;> rfl
  · rw [decide_eq_true (by omega), decide_eq_false (by omega)]; rfl
theorem signalErr_zero {xs : List Int} (h : signalErr xs = 0) : xs.length ≤ 200 ∧ areSamples xs = true := by
  unfold signalErr at h
  by_cases h1 : 200 < xs.length
  · rw [decide_eq_true h1] at h; cases h
  · rw [decide_eq_false h1] at h
    cases h2 : areSamples xs
    · rw [h2] at h; cases h
    · exact ⟨by omega, rfl⟩

theorem rulesErr_eq (k w t j m p : Int) : rulesErr k w t j m p =
    firstE [unlessE (within k 0 1) 15, unlessE (k != 0 || within w 1 4) 2, unlessE (k != 1 || w == 0) 3, unlessE (within t 0 131068 && within j 2 8 && within m 1 8 && within p 0 100) 2] := by
  unfold rulesErr
  rw [show decide (k = 0) = !(k != 0) by by_cases h : k = 0 <;> simp [h], show decide (k = 1) = !(k != 1) by by_cases h : k = 1 <;> simp [h], show decide (w ≠ 0) = !(w == 0) by by_cases h : w = 0 <;> simp [h]]
  generalize (k != 0) = a
  generalize (k != 1) = b
  generalize (w == 0) = c
  generalize within k 0 1 = d
  generalize within w 1 4 = e
  generalize (within t 0 131068) = f
  generalize (within j 2 8) = g
  generalize (within m 1 8) = h
  generalize (within p 0 100) = i
  revert a b c d e f g h i
  decide

theorem take_gi {xs : List Int} {t : Nat} (h : t < xs.length) : xs.take t ++ [gi xs t] = xs.take (t + 1) := by
  rw [List.take_add_one, List.getElem?_eq_getElem h]
  simp [gi, h]
end Go.Proofs.Ytbobgnkohnbonaa

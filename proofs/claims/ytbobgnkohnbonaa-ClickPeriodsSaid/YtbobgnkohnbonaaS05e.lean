/- Chapter 5, plain: hums. -/
import Derived.Test.YtbobgnkohnbonaaS05
set_option linter.unusedSimpArgs false
set_option linter.unusedVariables false
namespace Go.Proofs.Ytbobgnkohnbonaa
open Go.Ab

def inTab (n : Int) : Bool := within n (-65534) 65534
def humErr (p f : Int) (ts : List Int) : Int := bif !(within p 1 64 && within f 0 (p - 1)) then 2 else bif !decide ((ts.length : Int) = p) then 10 else bif ts.all inTab then 0 else 2
theorem humErr_first (p f : Int) (ts : List Int) : humErr p f ts = firstE [unlessE (within p 1 64 && within f 0 (p - 1)) 2, unlessE (decide ((ts.length : Int) = p)) 10, unlessE (ts.all inTab) 2] := by
  unfold humErr firstE firstE firstE firstE unlessE
  cases within p 1 64 && within f 0 (p - 1) <;> cases decide ((ts.length : Int) = p) <;> cases ts.all inTab <;> rfl
theorem humErr_zero {p f : Int} {ts : List Int} (h : humErr p f ts = 0) : (1 ≤ p ∧ p ≤ 64) ∧ (0 ≤ f ∧ f ≤ p - 1) ∧ (ts.length : Int) = p ∧ ts.all inTab = true := by
  unfold humErr at h
  cases h1 : within p 1 64 && within f 0 (p - 1) <;> rw [h1] at h
  · simp at h
  · cases h2 : decide ((ts.length : Int) = p) <;> rw [h2] at h
    · simp at h
    · cases h3 : ts.all inTab <;> rw [h3] at h
      · simp at h
      · simp only [Bool.and_eq_true, within_iff] at h1
        exact ⟨h1.1, h1.2, of_decide_eq_true h2, rfl⟩
theorem inTab_gi {ts : List Int} (h : ts.all inTab = true) (i : Int) : -65534 ≤ gi ts i ∧ gi ts i ≤ 65534 := by
  rw [List.all_eq_true] at h
  unfold gi
  rw [List.getD_eq_getElem?_getD]
  cases hq : ts[i.toNat]? with
  | none => simp
  | some z =>
    have := h z (List.mem_of_getElem? hq)
    rw [inTab, within_iff] at this
    simpa using this

/-- A sample with the hum in addition, so many times. -/
def humAt (p f : Int) (ts xs : List Int) (c : Int) (i : Nat) : Int := gi xs i + c * gi ts (((i : Int) + f).tmod p)
def humTo (p f : Int) (ts xs : List Int) (c : Int) (i : Nat) : List Int := (List.range i).map (humAt p f ts xs c)
theorem humTo_succ (p f : Int) (ts xs : List Int) (c : Int) (i : Nat) : humTo p f ts xs c i ++ [humAt p f ts xs c i] = humTo p f ts xs c (i + 1) := by simp [humTo, List.range_succ]
theorem humTo_length (p f : Int) (ts xs : List Int) (c : Int) (i : Nat) : (humTo p f ts xs c i).length = i := by simp [humTo]
theorem humTo_all (p f : Int) (ts xs : List Int) (c : Int) (i : Nat) : areSamples (humTo p f ts xs c (i + 1)) = (areSamples (humTo p f ts xs c i) && isSample (humAt p f ts xs c i)) := by
  rw [← humTo_succ]; unfold areSamples; rw [List.all_append]; simp
theorem humTo_bad {p f : Int} {ts xs : List Int} {c : Int} {i n : Nat} (hi : i < n) (h : isSample (humAt p f ts xs c i) = false) : areSamples (humTo p f ts xs c n) = false := by
  unfold areSamples
  rw [Bool.eq_false_iff, ne_eq, List.all_eq_true]
  intro h'
  have := h' (humAt p f ts xs c i) (by unfold humTo; exact List.mem_map.2 ⟨i, List.mem_range.2 hi, rfl⟩)
  rw [h] at this; cases this

/-- The signal with the hum, or nothing; and the error. -/
def humAll (p f : Int) (ts xs : List Int) (c : Int) : List Int := bif areSamples (humTo p f ts xs c xs.length) then humTo p f ts xs c xs.length else []
def humsErr (p f : Int) (ts xs : List Int) : Int := firstE [humErr p f ts, signalErr xs]
theorem humsErr_zero {p f : Int} {ts xs : List Int} (h : humsErr p f ts xs = 0) : humErr p f ts = 0 ∧ signalErr xs = 0 := by
  unfold humsErr firstE firstE firstE at h
  cases h1 : humErr p f ts != 0 <;> rw [h1] at h
  · cases h2 : signalErr xs != 0 <;> rw [h2] at h
    · simp at h1 h2; exact ⟨h1, h2⟩
    · simp at h2; exact absurd h h2
  · simp at h1; exact absurd h h1
def remL (p f : Int) (ts xs : List Int) (c : Int) : List Int := bif humsErr p f ts xs == 0 then humAll p f ts xs c else []
def remE (p f : Int) (ts xs : List Int) (c : Int) : Int := bif humsErr p f ts xs == 0 then (bif areSamples (humTo p f ts xs c xs.length) then 0 else 23) else humsErr p f ts xs
theorem tmod_in {n p : Int} (hp : 1 ≤ p) (hn : 0 ≤ n) : 0 ≤ n.tmod p ∧ n.tmod p < p := ⟨Int.tmod_nonneg p hn, Int.tmod_lt_of_pos n (by omega)⟩
end Go.Proofs.Ytbobgnkohnbonaa

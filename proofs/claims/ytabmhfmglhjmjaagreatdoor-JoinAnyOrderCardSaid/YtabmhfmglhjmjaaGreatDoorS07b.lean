import Derived.Test.YtabmhfmglhjmjaaGreatDoorS05
set_option linter.unusedVariables false
set_option linter.unusedSimpArgs false
set_option linter.unusedSectionVars false
namespace Go.Proofs.YtabmhfmglhjmjaaGreatDoor
open Go.Ab
attribute [local instance] drS
theorem fm_len {α β : Type} {c : α → List β} {k : Nat} (hk : ∀ x, (c x).length = k) : ∀ l : List α, (l.flatMap c).length = l.length * k
  | [] => by simp
  | x :: l => by rw [List.flatMap_cons, List.length_append, hk, fm_len hk l, List.length_cons, Nat.succ_mul]; omega
theorem fm_drop {α β : Type} {c : α → List β} {k : Nat} (hk : ∀ x, (c x).length = k) : ∀ (l : List α) (i : Nat), (l.flatMap c).drop (i * k) = (l.drop i).flatMap c
  | l, 0 => by simp
  | [], i + 1 => by simp
  | x :: l, i + 1 => by
    rw [List.flatMap_cons, List.drop_succ_cons, Nat.succ_mul, Nat.add_comm, ← List.drop_drop, List.drop_left' (hk x), fm_drop hk l i]
theorem fm_at {α β : Type} {c : α → List β} {k : Nat} (hk : ∀ x, (c x).length = k) {l : List α} {i : Nat} (h : i < l.length) : ((l.flatMap c).drop (i * k)).take k = c l[i] := by
  rw [fm_drop hk, List.drop_eq_getElem_cons h, List.flatMap_cons, List.take_left' (hk _)]
theorem fm_get {α β : Type} {c : α → List β} {k : Nat} (hk : ∀ x, (c x).length = k) {l : List α} {i j : Nat} (h : i < l.length) (hj : j < k) : (l.flatMap c)[i * k + j]? = (c l[i])[j]? := by
  have := congrArg (fun z => z[j]?) (fm_at hk h)
  simpa [List.getElem?_take, List.getElem?_drop, hj] using this
def fb7 (e : Nat → Int) : Nat → Int × Int
  | 0 => (0, 0)
  | n + 1 => bif (fb7 e n).2 != 0 then fb7 e n else bif e n != 0 then ((n : Int), e n) else (0, 0)
theorem fb7_zero {e : Nat → Int} : ∀ n : Nat, (∀ i, i < n → e i = 0) → fb7 e n = (0, 0)
  | 0, _ => rfl
  | n + 1, h => by rw [fb7, fb7_zero n fun i hi => h i (by omega), h n (by omega)]; rfl
theorem fb7_at {e : Nat → Int} {i : Nat} (he : e i ≠ 0) (h : ∀ q, q < i → e q = 0) : ∀ n : Nat, i < n → fb7 e n = ((i : Int), e i)
  | n + 1, hi => by
    rw [fb7]
    by_cases q : i = n
    · subst q
      rw [fb7_zero i h, show (e i != 0) = true by simpa using he]
      rfl
    · rw [fb7_at he h n (by omega)]
      rw [show (((i : Int), e i).2 != 0) = true by simpa using he]
      rfl
theorem fb7_none {e : Nat → Int} : ∀ n : Nat, (fb7 e n).2 = 0 → ∀ i, i < n → e i = 0
  | n + 1, h, i, hi => by
    rw [fb7] at h
    cases hq : (fb7 e n).2 != 0 <;> rw [hq] at h
    · rw [cond_false] at h
      cases hr : e n != 0 <;> rw [hr] at h
      · by_cases q : i = n
        · subst q; simpa using hr
        · exact fb7_none n (by simpa using hq) i (by omega)
      · rw [cond_true] at h
        simp only [bne_iff_ne, ne_eq] at hr
        exact absurd h hr
    · rw [cond_true] at h
      simp only [bne_iff_ne, ne_eq] at hq
      exact absurd h hq
theorem fb7_fst {e : Nat → Int} : ∀ n : Nat, (fb7 e n).2 = 0 → (fb7 e n).1 = 0 := fun n h => by
  rw [fb7_zero n (fb7_none n h)]
structure Lmk where
  a : Int
  b : Int
  d : Int
def Lmk.cells (x : Lmk) : List Int := [x.a, x.b, x.d]
def Lmk.ok (x : Lmk) : Bool := within x.a 0 1000000 && (within x.b 0 1000000 && within x.d 0 1000000)
def Lmk.lo (x : Lmk) : Int := x.b - x.a - x.d
def Lmk.hi (x : Lmk) : Int := x.b - x.a + x.d
def flatL (l : List Lmk) : List Int := l.flatMap Lmk.cells
def gl (l : List Lmk) (i : Nat) : Lmk := l.getD i ⟨0, 0, 0⟩
theorem flatL_length (l : List Lmk) : (flatL l).length = l.length * 3 := fm_len (c := Lmk.cells) (fun _ => rfl) l
theorem flatL_at {l : List Lmk} {i : Nat} (h : i < l.length) : ((flatL l).drop (i * 3)).take 3 = [(gl l i).a, (gl l i).b, (gl l i).d] := by
  rw [flatL, fm_at (c := Lmk.cells) (k := 3) (fun _ => rfl) h]
  simp [gl, h, Lmk.cells]
def lmE (l : List Lmk) (i : Nat) : Int := bif (gl l i).ok then 0 else 2
def ckL (l : List Lmk) : Int × Int := bif decide (12 < (l.length : Int)) then (0, 8) else fb7 (lmE l) l.length
theorem ckL_zero {l : List Lmk} (h : (ckL l).2 = 0) : l.length ≤ 12 ∧ (ckL l).1 = 0 ∧ ∀ i, i < l.length → (0 ≤ (gl l i).a ∧ (gl l i).a ≤ 1000000) ∧ (0 ≤ (gl l i).b ∧ (gl l i).b ≤ 1000000) ∧ (0 ≤ (gl l i).d ∧ (gl l i).d ≤ 1000000) := by
  unfold ckL at h ⊢
  cases hc : decide (12 < (l.length : Int)) <;> rw [hc] at h
  · rw [cond_false] at h ⊢
    have hc' := of_decide_eq_false hc
    refine ⟨by omega, fb7_fst _ h, fun i hi => ?_⟩
    have := fb7_none _ h i hi
    unfold lmE at this
    cases hk : (gl l i).ok <;> rw [hk] at this
    · cases this
    · unfold Lmk.ok at hk
      simpa [within_iff] using hk
  · cases h
def hiT (l : List Lmk) : Nat → Int
  | 0 => (gl l 0).hi
  | n + 1 => min (hiT l n) (gl l n).hi
theorem range_find {p : Nat → Bool} {n k : Nat} (hk : k < n) (hp : p k = true) (h : ∀ j, j < k → p j = false) : (List.range n).find? p = some k := by
  rw [List.find?_range_eq_some]
  exact ⟨hp, by simpa using hk, fun j hj => by simp [h j hj]⟩
theorem range_findNone {p : Nat → Bool} {n : Nat} (h : ∀ j, j < n → p j = false) : (List.range n).find? p = none := by
  rw [List.find?_eq_none]
  intro x hx
  simp [h x (List.mem_range.1 hx)]
def agr (x : Lmk) (lag : Int) : Bool := within lag x.lo x.hi
def agT (l : List Lmk) (lag : Int) : Nat → Int
  | 0 => 0
  | n + 1 => bif agr (gl l n) lag then agT l lag n + 1 else agT l lag n
def mostT (l : List Lmk) : Nat → Int × Int
  | 0 => (0, 0)
  | n + 1 => bif decide ((mostT l n).2 < agT l (gl l n).lo l.length) || (agT l (gl l n).lo l.length == (mostT l n).2 && decide ((gl l n).lo < (mostT l n).1)) then ((gl l n).lo, agT l (gl l n).lo l.length) else mostT l n
theorem agT_bound (l : List Lmk) (lag : Int) : ∀ n : Nat, 0 ≤ agT l lag n ∧ agT l lag n ≤ n
  | 0 => by simp [agT]
  | n + 1 => by
    have := agT_bound l lag n
    rw [agT]
    cases agr (gl l n) lag
    · rw [cond_false]; omega
    · rw [cond_true]; omega
end Go.Proofs.YtabmhfmglhjmjaaGreatDoor

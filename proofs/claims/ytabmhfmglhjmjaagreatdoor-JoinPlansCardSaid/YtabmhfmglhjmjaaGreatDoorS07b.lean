import Derived.Test.YtabmhfmglhjmjaaGreatDoorS05
set_option linter.unusedVariables false
set_option linter.unusedSimpArgs false
/-! Landmarks (chapter 7). -/
set_option linter.unusedSectionVars false
namespace Go.Proofs.YtabmhfmglhjmjaaGreatDoor
open Go.Ab
attribute [local instance] drS

/-! ### rows of cells of one width -/
theorem fm_len {α β : Type} {c : α → List β} {k : Nat} (hk : ∀ x, (c x).length = k) : ∀ l : List α, (l.flatMap c).length = l.length * k
  | [] => by simp
  | x :: l => by rw [List.flatMap_cons, List.length_append, hk, fm_len hk l, List.length_cons, Nat.succ_mul]; omega
theorem fm_drop {α β : Type} {c : α → List β} {k : Nat} (hk : ∀ x, (c x).length = k) : ∀ (l : List α) (i : Nat), (l.flatMap c).drop (i * k) = (l.drop i).flatMap c
  | l, 0 => by simp
  | [], i + 1 => by simp
  | x :: l, i + 1 => by
    rw [List.flatMap_cons, List.drop_succ_cons, Nat.succ_mul, Nat.add_comm, ← List.drop_drop, List.drop_left' (hk x), fm_drop hk l i]
theorem fm_at {α β : Type} {c : α → List β} {k : Nat} (hk : ∀ x, (c x).length = k) {l : List α} {i : Nat} (h : i < l.length) : ((l.flatMap c).drop (i * k)).take k = c l[i] := by
  rw [fm_drop hk, List.drop_eq_getElem_cons h, List.flatMap_cons, List.take_left' (hk _)]
theorem fm_get {α β : Type} {c : α → List β} {k : Nat} (hk : ∀ x, (c x).length = k) {l : List α} {i j : Nat} (h : i < l.length) (hj : j < k) : (l.flatMap c)[i * k + j]? = (c l[i])[j]? := by
  have := congrArg (fun z => z[j]?) (fm_at hk h)
  simpa [List.getElem?_take, List.getElem?_drop, hj] using this

/-! ### the first error of some -/
/-- The first of n errors that is not 0, with its index. -/
def fb7 (e : Nat → Int) : Nat → Int × Int
  | 0 => (0, 0)
  | n + 1 => bif (fb7 e n).2 != 0 then fb7 e n else bif e n != 0 then ((n : Int), e n) else (0, 0)
theorem fb7_zero {e : Nat → Int} : ∀ n : Nat, (∀ i, i < n → e i = 0) → fb7 e n = (0, 0)
  | 0, _ => rfl
  | n + 1, h => by rw [fb7, fb7_zero n fun i hi => h i (by omega), h n (by omega)]; rfl
theorem fb7_at {e : Nat → Int} {i : Nat} (he : e i ≠ 0) (h : ∀ q, q < i → e q = 0) : ∀ n : Nat, i < n → fb7 e n = ((i : Int), e i)
  | n + 1, hi => by
    rw [fb7]
    by_cases q : i = n
    · subst q
      rw [fb7_zero i h, show (e i != 0) = true by simpa using he]
      rfl
    · rw [fb7_at he h n (by omega)]
      rw [show (((i : Int), e i).2 != 0) = true by simpa using he]
      rfl
theorem fb7_none {e : Nat → Int} : ∀ n : Nat, (fb7 e n).2 = 0 → ∀ i, i < n → e i = 0
  | n + 1, h, i, hi => by
    rw [fb7] at h
    cases hq : (fb7 e n).2 != 0 <;> rw [hq] at h
    · rw [cond_false] at h
      cases hr : e n != 0 <;> rw [hr] at h
      · by_cases q : i = n
        · subst q; simpa using hr
        · exact fb7_none n (by simpa using hq) i (by omega)
      · rw [cond_true] at h
        simp only [bne_iff_ne, ne_eq] at hr
        exact absurd h hr
    · rw [cond_true] at h
      simp only [bne_iff_ne, ne_eq] at hq
      exact absurd h hq
theorem fb7_fst {e : Nat → Int} : ∀ n : Nat, (fb7 e n).2 = 0 → (fb7 e n).1 = 0 := fun n h => by
  rw [fb7_zero n (fb7_none n h)]

/-! ### landmarks -/
structure Lmk where
  a : Int
  b : Int
  d : Int
def Lmk.cells (x : Lmk) : List Int := [x.a, x.b, x.d]
def Lmk.ok (x : Lmk) : Bool := within x.a 0 1000000 && (within x.b 0 1000000 && within x.d 0 1000000)
def Lmk.lo (x : Lmk) : Int := x.b - x.a - x.d
def Lmk.hi (x : Lmk) : Int := x.b - x.a + x.d
def flatL (l : List Lmk) : List Int := l.flatMap Lmk.cells
def gl (l : List Lmk) (i : Nat) : Lmk := l.getD i ⟨0, 0, 0⟩
theorem flatL_length (l : List Lmk) : (flatL l).length = l.length * 3 := fm_len (c := Lmk.cells) (fun _ => rfl) l
theorem flatL_at {l : List Lmk} {i : Nat} (h : i < l.length) : ((flatL l).drop (i * 3)).take 3 = [(gl l i).a, (gl l i).b, (gl l i).d] := by
  rw [flatL, fm_at (c := Lmk.cells) (k := 3) (fun _ => rfl) h]
  simp [gl, h, Lmk.cells]
theorem gl_eq {l : List Lmk} {i : Nat} (h : i < l.length) : gl l i = l[i] := by simp [gl, h]

def lmE (l : List Lmk) (i : Nat) : Int := bif (gl l i).ok then 0 else 2
def ckL (l : List Lmk) : Int × Int := bif decide (12 < (l.length : Int)) then (0, 8) else fb7 (lmE l) l.length
theorem ckL_zero {l : List Lmk} (h : (ckL l).2 = 0) : l.length ≤ 12 ∧ (ckL l).1 = 0 ∧ ∀ i, i < l.length → (0 ≤ (gl l i).a ∧ (gl l i).a ≤ 1000000) ∧ (0 ≤ (gl l i).b ∧ (gl l i).b ≤ 1000000) ∧ (0 ≤ (gl l i).d ∧ (gl l i).d ≤ 1000000) := by
  unfold ckL at h ⊢
  cases hc : decide (12 < (l.length : Int)) <;> rw [hc] at h
  · rw [cond_false] at h ⊢
    have hc' := of_decide_eq_false hc
    refine ⟨by omega, fb7_fst _ h, fun i hi => ?_⟩
    have := fb7_none _ h i hi
    unfold lmE at this
    cases hk : (gl l i).ok <;> rw [hk] at this
    · cases this
    · unfold Lmk.ok at hk
      simpa [within_iff] using hk
  · cases h

/-! ### lags that agree with all -/
def loT (l : List Lmk) : Nat → Int
  | 0 => (gl l 0).lo
  | n + 1 => max (loT l n) (gl l n).lo
def hiT (l : List Lmk) : Nat → Int
  | 0 => (gl l 0).hi
  | n + 1 => min (hiT l n) (gl l n).hi
theorem loT_all {l : List Lmk} {n : Nat} : ∀ i, i < n → (gl l i).lo ≤ loT l n := by
  induction n with
  | zero => intro i hi; omega
  | succ n ih =>
    intro i hi
    rw [loT]
    by_cases e : i = n
    · subst e; omega
    · have := ih i (by omega); omega
theorem hiT_all {l : List Lmk} {n : Nat} : ∀ i, i < n → hiT l n ≤ (gl l i).hi := by
  induction n with
  | zero => intro i hi; omega
  | succ n ih =>
    intro i hi
    rw [hiT]
    by_cases e : i = n
    · subst e; omega
    · have := ih i (by omega); omega
theorem loT_some {l : List Lmk} : ∀ n, 1 ≤ n → ∃ i, i < n ∧ loT l n = (gl l i).lo
  | 0, h => by omega
  | n + 1, _ => by
    rw [loT]
    by_cases e : n = 0
    · subst e; exact ⟨0, by omega, by rw [loT]; omega⟩
    · obtain ⟨i, hi, h⟩ := loT_some n (by omega)
      rw [h]
      by_cases h2 : (gl l i).lo ≤ (gl l n).lo
      · exact ⟨n, by omega, by omega⟩
      · exact ⟨i, by omega, by omega⟩
theorem hiT_some {l : List Lmk} : ∀ n, 1 ≤ n → ∃ i, i < n ∧ hiT l n = (gl l i).hi
  | 0, h => by omega
  | n + 1, _ => by
    rw [hiT]
    by_cases e : n = 0
    · subst e; exact ⟨0, by omega, by rw [hiT]; omega⟩
    · obtain ⟨i, hi, h⟩ := hiT_some n (by omega)
      rw [h]
      by_cases h2 : (gl l n).hi ≤ (gl l i).hi
      · exact ⟨n, by omega, by omega⟩
      · exact ⟨i, by omega, by omega⟩

/-! ### two that contradict each other -/
def clash (x y : Lmk) : Bool := decide (min x.hi y.hi < max x.lo y.lo)
def con (l : List Lmk) : Option (Nat × Nat) := (List.range l.length).findSome? fun i => ((List.range l.length).find? fun k => decide (i < k) && clash (gl l i) (gl l k)).map fun k => (i, k)
theorem range_find {p : Nat → Bool} {n k : Nat} (hk : k < n) (hp : p k = true) (h : ∀ j, j < k → p j = false) : (List.range n).find? p = some k := by
  rw [List.find?_range_eq_some]
  exact ⟨hp, by simpa using hk, fun j hj => by simp [h j hj]⟩
theorem range_findNone {p : Nat → Bool} {n : Nat} (h : ∀ j, j < n → p j = false) : (List.range n).find? p = none := by
  rw [List.find?_eq_none]
  intro x hx
  simp [h x (List.mem_range.1 hx)]
theorem range_findSome {α : Type} {f : Nat → Option α} : ∀ {n i : Nat} {a : α}, i < n → f i = some a → (∀ j, j < i → f j = none) → (List.range n).findSome? f = some a
  | n + 1, i, a, hi, hf, h => by
    rw [List.range_succ, List.findSome?_append]
    by_cases e : i = n
    · subst e
      have : (List.range i).findSome? f = none := by
        rw [List.findSome?_eq_none_iff]
        exact fun x hx => h x (List.mem_range.1 hx)
      simp [this, hf]
    · rw [range_findSome (n := n) (by omega) hf h]; rfl
theorem con_some {l : List Lmk} {i k : Nat} (hk : k < l.length) (hik : i < k) (h1 : ∀ a b, a < i → a < b → b < l.length → clash (gl l a) (gl l b) = false)
    (h2 : ∀ b, i < b → b < k → clash (gl l i) (gl l b) = false) (hc : clash (gl l i) (gl l k) = true) : con l = some (i, k) := by
  unfold con
  refine range_findSome (i := i) (by omega) ?_ fun j hj => ?_
  · rw [range_find (k := k) hk (by simp [hik, hc]) fun j hj => ?_]
    · rfl
    · by_cases e : i < j
      · simp [h2 j e hj]
      · simp [e]
  · rw [range_findNone fun b hb => ?_]
    · rfl
    · by_cases e : j < b
      · simp [h1 j b hj e hb]
      · simp [e]
theorem con_none {l : List Lmk} (h : ∀ a b, a < l.length → a < b → b < l.length → clash (gl l a) (gl l b) = false) : con l = none := by
  unfold con
  rw [List.findSome?_eq_none_iff]
  intro a ha
  rw [range_findNone fun b hb => ?_]
  · rfl
  · by_cases e : a < b
    · simp [h a b (List.mem_range.1 ha) e hb]
    · simp [e]
theorem con_inv {l : List Lmk} {i k : Nat} (h : con l = some (i, k)) : i < k ∧ k < l.length ∧ clash (gl l i) (gl l k) = true := by
  unfold con at h
  obtain ⟨a, ha, h2⟩ := List.exists_of_findSome?_eq_some h
  rw [Option.map_eq_some_iff] at h2
  obtain ⟨b, h3, h4⟩ := h2
  simp only [Prod.mk.injEq] at h4
  obtain ⟨rfl, rfl⟩ := h4
  have h5 := List.find?_some h3
  have h6 := List.mem_of_find?_eq_some h3
  simp only [Bool.and_eq_true, decide_eq_true_eq] at h5
  exact ⟨h5.1, List.mem_range.1 h6, h5.2⟩
theorem con_no {l : List Lmk} (h : con l = none) {a b : Nat} (h1 : a < b) (h2 : b < l.length) : clash (gl l a) (gl l b) = false := by
  unfold con at h
  rw [List.findSome?_eq_none_iff] at h
  have := h a (List.mem_range.2 (by omega))
  rw [Option.map_eq_none_iff, List.find?_eq_none] at this
  have := this b (List.mem_range.2 h2)
  simpa [h1] using this

/-! ### the lag that agrees with the most -/
def agr (x : Lmk) (lag : Int) : Bool := within lag x.lo x.hi
def agT (l : List Lmk) (lag : Int) : Nat → Int
  | 0 => 0
  | n + 1 => bif agr (gl l n) lag then agT l lag n + 1 else agT l lag n
def mostT (l : List Lmk) : Nat → Int × Int
  | 0 => (0, 0)
  | n + 1 => bif decide ((mostT l n).2 < agT l (gl l n).lo l.length) || (agT l (gl l n).lo l.length == (mostT l n).2 && decide ((gl l n).lo < (mostT l n).1)) then ((gl l n).lo, agT l (gl l n).lo l.length) else mostT l n
theorem agT_bound (l : List Lmk) (lag : Int) : ∀ n : Nat, 0 ≤ agT l lag n ∧ agT l lag n ≤ n
  | 0 => by simp [agT]
  | n + 1 => by
    have := agT_bound l lag n
    rw [agT]
    cases agr (gl l n) lag
    · rw [cond_false]; omega
    · rw [cond_true]; omega
theorem agT_pos {l : List Lmk} {lag : Int} {i : Nat} (h : agr (gl l i) lag = true) : ∀ n : Nat, i < n → 1 ≤ agT l lag n
  | n + 1, hi => by
    rw [agT]
    have := agT_bound l lag n
    by_cases e : i = n
    · subst e; rw [h, cond_true]; omega
    · have := agT_pos h n (by omega)
      cases agr (gl l n) lag
      · rw [cond_false]; omega
      · rw [cond_true]; omega
theorem agT_mono {l : List Lmk} {x y : Int} : ∀ n : Nat, (∀ i, i < n → agr (gl l i) x = true → agr (gl l i) y = true) → agT l x n ≤ agT l y n
  | 0, _ => by simp [agT]
  | n + 1, h => by
    have h1 := agT_mono n fun i hi => h i (by omega)
    rw [agT, agT]
    cases hx : agr (gl l n) x
    · cases agr (gl l n) y
      · rw [cond_false, cond_false]; exact h1
      · rw [cond_false, cond_true]; omega
    · rw [h n (by omega) hx, cond_true, cond_true]; omega
theorem agT_full {l : List Lmk} {x : Int} : ∀ n : Nat, agT l x n = n ↔ ∀ i, i < n → agr (gl l i) x = true
  | 0 => by simp [agT]
  | n + 1 => by
    have h1 := agT_full (l := l) (x := x) n
    have h2 := agT_bound l x n
    rw [agT]
    cases hx : agr (gl l n) x
    · rw [cond_false]
      exact ⟨fun h => by omega, fun h => by rw [h n (by omega)] at hx; cases hx⟩
    · rw [cond_true]
      constructor
      · intro h i hi
        by_cases e : i = n
        · subst e; exact hx
        · exact h1.1 (by omega) i (by omega)
      · intro h
        have := h1.2 fun i hi => h i (by omega)
        omega
/-- What is the best among the first n. -/
theorem mostT_ok {l : List Lmk} (hd : ∀ i, i < l.length → 0 ≤ (gl l i).d) : ∀ n : Nat, n ≤ l.length → 1 ≤ n → (∃ i, i < n ∧ (mostT l n).1 = (gl l i).lo) ∧ (mostT l n).2 = agT l (mostT l n).1 l.length ∧ 1 ≤ (mostT l n).2 ∧
    ∀ i, i < n → agT l (gl l i).lo l.length < (mostT l n).2 ∨ (agT l (gl l i).lo l.length = (mostT l n).2 ∧ (mostT l n).1 ≤ (gl l i).lo)
  | 0, _, h => by omega
  | n + 1, hn, _ => by
    have hown : 1 ≤ agT l (gl l n).lo l.length := agT_pos (i := n) (by have := hd n (by omega); unfold agr Lmk.lo Lmk.hi; rw [within_iff]; omega) _ (by omega)
    by_cases e : n = 0
    · subst e
      have hm : mostT l (0 + 1) = ((gl l 0).lo, agT l (gl l 0).lo l.length) := by
        rw [mostT, mostT, show decide (((0, 0) : Int × Int).2 < agT l (gl l 0).lo l.length) = true from decide_eq_true (by dsimp only; omega)]
        rfl
      rw [hm]
      exact ⟨⟨0, by omega, rfl⟩, rfl, hown, fun i hi => by
        have e : i = 0 := by omega
        rw [e]
        exact .inr ⟨rfl, Int.le_refl _⟩⟩
    · obtain ⟨⟨j, hj, h1⟩, h2, h3, h4⟩ := mostT_ok hd n (by omega) (by omega)
      rw [mostT]
      cases hc : decide ((mostT l n).2 < agT l (gl l n).lo l.length) || (agT l (gl l n).lo l.length == (mostT l n).2 && decide ((gl l n).lo < (mostT l n).1))
      · rw [cond_false]
        simp only [Bool.or_eq_false_iff, decide_eq_false_iff_not, Bool.and_eq_false_iff, beq_eq_false_iff_ne, ne_eq] at hc
        refine ⟨⟨j, by omega, h1⟩, h2, h3, fun i hi => ?_⟩
        by_cases e2 : i = n
        · subst e2; omega
        · exact h4 i (by omega)
      · rw [cond_true]
        simp only [Bool.or_eq_true, decide_eq_true_eq, Bool.and_eq_true, beq_iff_eq] at hc
        refine ⟨⟨n, by omega, rfl⟩, rfl, hown, fun i hi => ?_⟩
        dsimp only
        by_cases e2 : i = n
        · subst e2; exact .inr ⟨rfl, Int.le_refl _⟩
        · have := h4 i (by omega)
          omega
/-- No lag agrees with more; one that agrees with as many is not below. -/
theorem most_all {l : List Lmk} (hd : ∀ i, i < l.length → 0 ≤ (gl l i).d) (hn : 1 ≤ l.length) (lag : Int) :
    agT l lag l.length < (mostT l l.length).2 ∨ (agT l lag l.length = (mostT l l.length).2 ∧ (mostT l l.length).1 ≤ lag) := by
  obtain ⟨h1, h2, h3, h4⟩ := mostT_ok hd l.length (Nat.le_refl _) hn
  by_cases hx : ∃ i, i < l.length ∧ agr (gl l i) lag = true
  · -- the greatest beginning among those that agree
    have key : ∀ n : Nat, n ≤ l.length → (∃ i, i < n ∧ agr (gl l i) lag = true) → ∃ j, j < n ∧ agr (gl l j) lag = true ∧ ∀ i, i < n → agr (gl l i) lag = true → (gl l i).lo ≤ (gl l j).lo := fun n => by
      induction n with
      | zero => rintro _ ⟨i, hi, _⟩; omega
      | succ n ih =>
        rintro hn ⟨i, hi, ha⟩
        by_cases hp : ∃ i, i < n ∧ agr (gl l i) lag = true
        · obtain ⟨j, hj, hja, hjm⟩ := ih (by omega) hp
          by_cases hq : agr (gl l n) lag = true ∧ (gl l j).lo < (gl l n).lo
          · refine ⟨n, by omega, hq.1, fun i hi ha => ?_⟩
            by_cases e : i = n
            · subst e; exact Int.le_refl _
            · have := hjm i (by omega) ha; omega
          · refine ⟨j, by omega, hja, fun i hi ha => ?_⟩
            by_cases e : i = n
            · subst e
              by_cases hlt : (gl l j).lo < (gl l i).lo
              · exact absurd ⟨ha, hlt⟩ hq
              · omega
            · exact hjm i (by omega) ha
        · have e : i = n := by
            by_cases e : i = n
            · exact e
            · exact absurd ⟨i, by omega, ha⟩ hp
          subst e
          refine ⟨i, by omega, ha, fun k hk hka => ?_⟩
          by_cases e : k = i
          · subst e; exact Int.le_refl _
          · exact absurd ⟨k, by omega, hka⟩ hp
    obtain ⟨j, hj, hja, hjm⟩ := key l.length (Nat.le_refl _) hx
    have hjl : (gl l j).lo ≤ lag := by unfold agr at hja; exact (within_iff.1 hja).1
    have hle : agT l lag l.length ≤ agT l (gl l j).lo l.length := agT_mono _ fun i hi ha => by
      have h5 := hjm i hi ha
      unfold agr at ha ⊢
      rw [within_iff] at ha ⊢
      omega
    have := h4 j hj
    omega
  · left
    have : agT l lag l.length ≤ 0 := by
      have : ∀ n : Nat, n ≤ l.length → agT l lag n = 0 := fun n => by
        induction n with
        | zero => intro _; rfl
        | succ n ih =>
          intro hn
          rw [agT, ih (by omega)]
          cases ha : agr (gl l n) lag
          · rfl
          · exact absurd ⟨n, by omega, ha⟩ hx
      rw [this _ (Nat.le_refl _)]
      exact Int.le_refl _
    omega
/-- A lag agrees with all exactly if no two contradict each other. -/
theorem helly {l : List Lmk} (hd : ∀ i, i < l.length → 0 ≤ (gl l i).d) (hn : 1 ≤ l.length) : loT l l.length ≤ hiT l l.length ↔ con l = none := by
  obtain ⟨i, hi, h1⟩ := loT_some (l := l) l.length hn
  obtain ⟨k, hk, h2⟩ := hiT_some (l := l) l.length hn
  constructor
  · intro h
    refine con_none fun a b ha hab hb => ?_
    have a1 := loT_all (l := l) a ha
    have a2 := loT_all (l := l) b hb
    have a3 := hiT_all (l := l) a ha
    have a4 := hiT_all (l := l) b hb
    unfold clash
    rw [decide_eq_false_iff_not]
    omega
  · intro h
    rw [h1, h2]
    rcases Nat.lt_trichotomy i k with e | e | e
    · have := con_no h e hk
      unfold clash at this
      rw [decide_eq_false_iff_not] at this
      omega
    · subst e
      have := hd i hi
      unfold Lmk.lo Lmk.hi
      omega
    · have := con_no h e hi
      unfold clash at this
      rw [decide_eq_false_iff_not] at this
      omega
/-- The lag of the most, where all agree. -/
theorem most_full {l : List Lmk} (hd : ∀ i, i < l.length → 0 ≤ (gl l i).d) (hn : 1 ≤ l.length) : ((mostT l l.length).2 = l.length ↔ loT l l.length ≤ hiT l l.length) ∧ (loT l l.length ≤ hiT l l.length → loT l l.length = (mostT l l.length).1) := by
  obtain ⟨h1, h2, h3, h4⟩ := mostT_ok hd l.length (Nat.le_refl _) hn
  obtain ⟨i, hi, e1⟩ := loT_some (l := l) l.length hn
  have hfull : (mostT l l.length).2 = l.length → loT l l.length ≤ (mostT l l.length).1 ∧ (mostT l l.length).1 ≤ hiT l l.length := fun h => by
    have h5 := (agT_full (l := l) (x := (mostT l l.length).1) l.length).1 (by omega)
    obtain ⟨k, hk, e2⟩ := hiT_some (l := l) l.length hn
    have a1 := h5 i hi
    have a2 := h5 k hk
    unfold agr at a1 a2
    rw [within_iff] at a1 a2
    omega
  have hall : loT l l.length ≤ hiT l l.length → agT l (loT l l.length) l.length = l.length := fun h => (agT_full _).2 fun j hj => by
    have a1 := loT_all (l := l) j hj
    have a2 := hiT_all (l := l) j hj
    unfold agr
    rw [within_iff]
    omega
  have hb := agT_bound l (mostT l l.length).1 l.length
  refine ⟨⟨fun h => by have := hfull h; omega, fun h => ?_⟩, fun h => ?_⟩
  · have a1 := hall h
    have a2 := most_all hd hn (loT l l.length)
    omega
  · have a1 := hall h
    have a2 := most_all hd hn (loT l l.length)
    have a3 := hfull (by omega)
    omega
end Go.Proofs.YtabmhfmglhjmjaaGreatDoor

import Derived.Test.YtabmhfmglhjmjaaGreatDoorS07c
set_option linter.unusedVariables false
set_option linter.unusedSimpArgs false
set_option linter.unusedSectionVars false
namespace Go.Proofs.YtabmhfmglhjmjaaGreatDoor
open Go.Ab
attribute [local instance] drS
def chg (c : Int) (i j : Nat) : Int := bif i == j then 0 else c
theorem chg_bound {c : Int} (h : 0 ≤ c) (i j : Nat) : 0 ≤ chg c i j ∧ chg c i j ≤ c := by
  unfold chg; cases i == j <;> simp [h]
def bestN (ok : Nat → Bool) (f : Nat → Int) : Nat → Int
  | 0 => -1
  | n + 1 => bif ok n && (bestN ok f n == -1 || decide (f n < bestN ok f n)) then f n else bestN ok f n
theorem bestN_ok {ok : Nat → Bool} {f : Nat → Int} : ∀ n : Nat, (∀ i, i < n → ok i = true → 0 ≤ f i) →
    (bestN ok f n = -1 ∧ ∀ i, i < n → ok i = false) ∨ ∃ i, i < n ∧ ok i = true ∧ bestN ok f n = f i ∧ ∀ j, j < n → ok j = true → f i ≤ f j
  | 0, _ => .inl ⟨rfl, fun i hi => by omega⟩
  | n + 1, h => by
    have ih := bestN_ok n fun i hi => h i (by omega)
    rw [bestN]
    cases hk : ok n
    · simp only [Bool.false_and, cond_false]
      rcases ih with ⟨h1, h2⟩ | ⟨i, h1, h2, h3, h4⟩
      · exact .inl ⟨h1, fun i hi => by
          by_cases e : i = n
          · subst e; exact hk
          · exact h2 i (by omega)⟩
      · refine .inr ⟨i, by omega, h2, h3, fun j hj hjk => ?_⟩
        by_cases e : j = n
        · subst e; rw [hk] at hjk; cases hjk
        · exact h4 j (by omega) hjk
    · have h0 := h n (by omega) hk
      simp only [Bool.true_and]
      rcases ih with ⟨h1, h2⟩ | ⟨i, h1, h2, h3, h4⟩
      · rw [h1]
        refine .inr ⟨n, by omega, hk, rfl, fun j hj hjk => ?_⟩
        by_cases e : j = n
        · subst e; exact Int.le_refl _
        · rw [h2 j (by omega)] at hjk; cases hjk
      · have h5 := h i (by omega) h2
        rw [show (bestN ok f n == -1) = false from beq_false_of_ne (by omega), Bool.false_or]
        cases hd : decide (f n < bestN ok f n)
        · have hd' := of_decide_eq_false hd
          refine .inr ⟨i, by omega, h2, h3, fun j hj hjk => ?_⟩
          by_cases e : j = n
          · subst e; omega
          · exact h4 j (by omega) hjk
        · have hd' := of_decide_eq_true hd
          refine .inr ⟨n, by omega, hk, rfl, fun j hj hjk => ?_⟩
          by_cases e : j = n
          · subst e; exact Int.le_refl _
          · have := h4 j (by omega) hjk; omega
theorem bestN_congr {ok ok' : Nat → Bool} {f f' : Nat → Int} : ∀ n : Nat, (∀ i, i < n → ok i = ok' i) → (∀ i, i < n → ok i = true → f i = f' i) → bestN ok f n = bestN ok' f' n
  | 0, _, _ => rfl
  | n + 1, h, k => by
    rw [bestN, bestN, bestN_congr n (fun i hi => h i (by omega)) (fun i hi => k i (by omega)), ← h n (by omega)]
    cases hk : ok n
    · rfl
    · rw [k n (by omega) hk]
structure Dp (dv : Nat → Nat → Int) (c : Int) (K T : Nat) (nm : Nat → ByteArray) (B : Int) : Prop where
  K1 : 1 ≤ K
  c0 : 0 ≤ c
  rng : ∀ k i, dv k i = -1 ∨ (0 ≤ dv k i ∧ dv k i ≤ B)
  some : ∀ k, k < K → ∃ i, i < T ∧ dv k i ≠ -1
  uniq : ∀ i j, i < T → j < T → nm i = nm j → i = j
section
variable (dv : Nat → Nat → Int) (c : Int) (K T : Nat) (nm : Nat → ByteArray)
def rb : Nat → Nat → Int
  | 0, i => dv (K - 1) i
  | m + 1, i => bif dv (K - 1 - (m + 1)) i == -1 then -1 else dv (K - 1 - (m + 1)) i + bestN (fun j => rb m j != -1) (fun j => chg c i j + rb m j) T
def rst (k i : Nat) : Int := rb dv c K T (K - 1 - k) i
def okR (k j : Nat) : Bool := rst dv c K T k j != -1
def pk7 (ok : Nat → Bool) (f : Nat → Int) : Nat → Option Nat
  | 0 => none
  | n + 1 => bif ok n then (match pk7 ok f n with
    | none => some n
    | some b => bif decide (f n < f b) || (f n == f b && nmLt (nm n) (nm b)) then some n else some b) else pk7 ok f n
def ch7 : Nat → Nat
  | 0 => (pk7 nm (okR dv c K T 0) (rst dv c K T 0) T).getD 0
  | k + 1 => (pk7 nm (okR dv c K T (k + 1)) (fun j => chg c (ch7 k) j + rst dv c K T (k + 1) j) T).getD 0
def val7 : Nat → Nat → Int
  | 0, j => rst dv c K T 0 j
  | k + 1, j => chg c (ch7 dv c K T nm k) j + rst dv c K T (k + 1) j
theorem val7_zero (j : Nat) : val7 dv c K T nm 0 j = rst dv c K T 0 j := rfl
theorem val7_succ (k j : Nat) : val7 dv c K T nm (k + 1) j = chg c (ch7 dv c K T nm k) j + rst dv c K T (k + 1) j := rfl
def total7 : Int := bestN (okR dv c K T 0) (rst dv c K T 0) T
def costTo (s : Nat → Nat) : Nat → Int
  | 0 => 0
  | k + 1 => costTo s k + dv k (s k) + (bif k == 0 then 0 else chg c (s (k - 1)) (s k))
def pr7 : Nat → Nat → Int
  | 0, j => bif dv 0 j == -1 then 0 else dv 0 j
  | k + 1, j => bif dv (k + 1) j == -1 then 0 else dv (k + 1) j + bestN (fun i => dv k i != -1) (fun i => pr7 k i + chg c i j) T
end
theorem pk7_ok {nm : Nat → ByteArray} {T : Nat} (hu : ∀ i j, i < T → j < T → nm i = nm j → i = j) {ok : Nat → Bool} {f : Nat → Int} : ∀ n : Nat, n ≤ T →
    (pk7 nm ok f n = none ∧ ∀ i, i < n → ok i = false) ∨ ∃ b, pk7 nm ok f n = some b ∧ b < n ∧ ok b = true ∧ ∀ j, j < n → ok j = true → f b < f j ∨ (f b = f j ∧ (j = b ∨ nmLt (nm b) (nm j) = true))
  | 0, _ => .inl ⟨rfl, fun i hi => by omega⟩
  | n + 1, hn => by
    have ih := pk7_ok hu (ok := ok) (f := f) n (by omega)
    rw [pk7]
    cases hk : ok n
    · rw [cond_false]
      rcases ih with ⟨h1, h2⟩ | ⟨b, h1, h2, h3, h4⟩
      · exact .inl ⟨h1, fun i hi => by
          by_cases e : i = n
          · subst e; exact hk
          · exact h2 i (by omega)⟩
      · refine .inr ⟨b, h1, by omega, h3, fun j hj hjk => ?_⟩
        by_cases e : j = n
        · subst e; rw [hk] at hjk; cases hjk
        · exact h4 j (by omega) hjk
    · rw [cond_true]
      rcases ih with ⟨h1, h2⟩ | ⟨b, h1, h2, h3, h4⟩
      · rw [h1]
        refine .inr ⟨n, rfl, by omega, hk, fun j hj hjk => ?_⟩
        by_cases e : j = n
        · subst e; exact .inr ⟨rfl, .inl rfl⟩
        · rw [h2 j (by omega)] at hjk; cases hjk
      · rw [h1]
        dsimp only
        cases hd : decide (f n < f b) || (f n == f b && nmLt (nm n) (nm b))
        · rw [cond_false]
          simp only [Bool.or_eq_false_iff, decide_eq_false_iff_not, Bool.and_eq_false_iff, beq_eq_false_iff_ne, ne_eq] at hd
          refine .inr ⟨b, rfl, by omega, h3, fun j hj hjk => ?_⟩
          by_cases e : j = n
          · subst e
            rcases hd.2 with h5 | h5
            · left; omega
            · by_cases e2 : f b = f j
              · refine .inr ⟨e2, .inr ?_⟩
                cases hl : nmLt (nm b) (nm j)
                · exact absurd (hu _ _ (by omega) (by omega) (nmLt_tri hl h5)) (by omega)
                · rfl
              · left; omega
          · exact h4 j (by omega) hjk
        · rw [cond_true]
          simp only [Bool.or_eq_true, decide_eq_true_eq, Bool.and_eq_true, beq_iff_eq] at hd
          refine .inr ⟨n, rfl, by omega, hk, fun j hj hjk => ?_⟩
          by_cases e : j = n
          · subst e; exact .inr ⟨rfl, .inl rfl⟩
          · rcases h4 j (by omega) hjk with h5 | ⟨h5, h6⟩
            · left; omega
            · rcases hd with h7 | ⟨h7, h8⟩
              · left; omega
              · refine .inr ⟨by omega, .inr ?_⟩
                rcases h6 with rfl | h6
                · exact h8
                · exact nmLt_trans h8 h6
section
variable {dv : Nat → Nat → Int} {c : Int} {K T : Nat} {nm : Nat → ByteArray} {B : Int}
theorem rst_last (hK : 1 ≤ K) (i : Nat) : rst dv c K T (K - 1) i = dv (K - 1) i := by unfold rst; rw [Nat.sub_self]; rfl
theorem rst_step {k : Nat} (h : k + 1 < K) (i : Nat) : rst dv c K T k i = bif dv k i == -1 then -1 else dv k i + bestN (okR dv c K T (k + 1)) (fun j => chg c i j + rst dv c K T (k + 1) j) T := by
  unfold rst okR rst
  have e : K - 1 - k = (K - 1 - (k + 1)) + 1 := by omega
  rw [e, rb, show K - 1 - (K - 1 - (k + 1) + 1) = k by omega]
theorem rst_sign (h : Dp dv c K T nm B) : ∀ m k : Nat, K - 1 - k = m → k < K → ∀ i, (rst dv c K T k i = -1 ∧ dv k i = -1) ∨ (dv k i ≠ -1 ∧ dv k i ≤ rst dv c K T k i ∧ 0 ≤ rst dv c K T k i ∧ rst dv c K T k i ≤ (m + 1) * (B + c))
  | 0, k, hm, hk, i => by
    obtain rfl : k = K - 1 := by omega
    rw [rst_last h.K1]
    have := h.rng (K - 1) i
    have := h.c0
    omega
  | m + 1, k, hm, hk, i => by
    have ih := rst_sign h m (k + 1) (by omega) (by omega)
    rw [rst_step (by omega)]
    have hd := h.rng k i
    cases e : dv k i == -1
    · rw [cond_false]
      have e' : dv k i ≠ -1 := by simpa using e
      obtain ⟨j0, hj0, hj1⟩ := h.some (k + 1) (by omega)
      have hf : ∀ j, j < T → okR dv c K T (k + 1) j = true → 0 ≤ chg c i j + rst dv c K T (k + 1) j := fun j _ hj => by
        have h1 := (chg_bound h.c0 i j).1
        have h2 := ih j
        unfold okR at hj
        simp only [bne_iff_ne, ne_eq] at hj
        omega
      rcases bestN_ok T hf with ⟨_, h2⟩ | ⟨j, h1, h2, h3, h4⟩
      · have := h2 j0 hj0
        unfold okR at this
        simp only [bne_eq_false_iff_eq] at this
        have := ih j0
        omega
      · rw [h3]
        have h5 := hf j h1 h2
        have h6 := ih j
        have h7 := (chg_bound h.c0 i j).2
        unfold okR at h2
        simp only [bne_iff_ne, ne_eq] at h2
        have h8 : ((m + 1 : Nat) + 1 : Int) * (B + c) = (m + 1) * (B + c) + (B + c) := by rw [Int.add_mul, Int.one_mul]; simp
        right
        refine ⟨e', ?_, ?_, ?_⟩
        · omega
        · omega
        · rw [h8]; omega
    · rw [cond_true]
      exact .inl ⟨rfl, by simpa using e⟩
theorem okR_iff (h : Dp dv c K T nm B) {k : Nat} (hk : k < K) (i : Nat) : okR dv c K T k i = true ↔ dv k i ≠ -1 := by
  have := rst_sign h _ k rfl hk i
  unfold okR
  simp only [bne_iff_ne, ne_eq]
  omega
theorem rst_nonneg (h : Dp dv c K T nm B) {k : Nat} (hk : k < K) {i : Nat} (hi : dv k i ≠ -1) : 0 ≤ rst dv c K T k i := by
  have := rst_sign h _ k rfl hk i
  omega
theorem rst_bound (h : Dp dv c K T nm B) (hB : 0 ≤ B) {k : Nat} (hk : k < K) (i : Nat) : -1 ≤ rst dv c K T k i ∧ rst dv c K T k i ≤ K * (B + c) := by
  have h1 := rst_sign h _ k rfl hk i
  have hc := h.c0
  have h2 : ((K - 1 - k : Nat) + 1 : Int) * (B + c) ≤ K * (B + c) := Int.mul_le_mul_of_nonneg_right (by omega) (by omega)
  have h3 : 0 ≤ (K : Int) * (B + c) := Int.mul_nonneg (by omega) (by omega)
  omega
theorem ch7_ok (h : Dp dv c K T nm B) {k : Nat} (hk : k < K) : ch7 dv c K T nm k < T ∧ dv k (ch7 dv c K T nm k) ≠ -1 ∧
    ∀ j, j < T → dv k j ≠ -1 → val7 dv c K T nm k (ch7 dv c K T nm k) < val7 dv c K T nm k j ∨ (val7 dv c K T nm k (ch7 dv c K T nm k) = val7 dv c K T nm k j ∧ (j = ch7 dv c K T nm k ∨ nmLt (nm (ch7 dv c K T nm k)) (nm j) = true)) := by
  obtain ⟨j0, hj0, hj1⟩ := h.some k hk
  have e : ch7 dv c K T nm k = (pk7 nm (okR dv c K T k) (val7 dv c K T nm k) T).getD 0 := by cases k <;> rfl
  rcases pk7_ok (nm := nm) (T := T) h.uniq (ok := okR dv c K T k) (f := val7 dv c K T nm k) T (Nat.le_refl _) with ⟨_, h2⟩ | ⟨b, h1, h2, h3, h4⟩
  · have := h2 j0 hj0
    rw [(okR_iff h hk j0).2 hj1] at this
    cases this
  · rw [h1] at e
    have e' : ch7 dv c K T nm k = b := e
    rw [e']
    exact ⟨h2, (okR_iff h hk b).1 h3, fun j hj hjk => h4 j hj ((okR_iff h hk j).2 hjk)⟩
theorem ch7_unique (h : Dp dv c K T nm B) {k : Nat} (hk : k < K) {b : Nat} (hb : b < T) (hd : dv k b ≠ -1)
    (hm : ∀ j, j < T → dv k j ≠ -1 → val7 dv c K T nm k b < val7 dv c K T nm k j ∨ (val7 dv c K T nm k b = val7 dv c K T nm k j ∧ nmLt (nm j) (nm b) = false)) : ch7 dv c K T nm k = b := by
  obtain ⟨h1, h2, h3⟩ := ch7_ok h hk
  have a1 := h3 b hb hd
  have a2 := hm _ h1 h2
  rcases a1 with a1 | ⟨a1, rfl | a3⟩
  · omega
  · rfl
  · rcases a2 with a2 | ⟨_, a2⟩
    · omega
    · rw [a2] at a3; cases a3
def left7 (dv : Nat → Nat → Int) (c : Int) (K T : Nat) (nm : Nat → ByteArray) (k : Nat) : Int := val7 dv c K T nm k (ch7 dv c K T nm k)
theorem left7_zero (h : Dp dv c K T nm B) : left7 dv c K T nm 0 = total7 dv c K T := by
  obtain ⟨h1, h2, h3⟩ := ch7_ok h h.K1
  rcases bestN_ok (ok := okR dv c K T 0) (f := rst dv c K T 0) T (fun i _ hi => rst_nonneg h h.K1 ((okR_iff h h.K1 i).1 hi)) with ⟨_, h5⟩ | ⟨i, h5, h6, h7, h8⟩
  · have := h5 _ h1
    rw [(okR_iff h h.K1 _).2 h2] at this
    cases this
  · have a1 := h3 i h5 ((okR_iff h h.K1 i).1 h6)
    have a2 := h8 _ h1 ((okR_iff h h.K1 _).2 h2)
    unfold left7 total7
    rw [h7]
    simp only [val7_zero, val7_succ] at a1 ⊢
    omega
theorem left7_succ (h : Dp dv c K T nm B) {k : Nat} (hk : k + 1 < K) : left7 dv c K T nm (k + 1) = rst dv c K T k (ch7 dv c K T nm k) - dv k (ch7 dv c K T nm k) := by
  obtain ⟨_, g2, _⟩ := ch7_ok h (k := k) (by omega)
  obtain ⟨h1, h2, h3⟩ := ch7_ok h hk
  rw [rst_step hk, show (dv k (ch7 dv c K T nm k) == -1) = false by simpa using g2, cond_false]
  have hf : ∀ j, j < T → okR dv c K T (k + 1) j = true → 0 ≤ chg c (ch7 dv c K T nm k) j + rst dv c K T (k + 1) j := fun j _ hj => by
    have a1 := (chg_bound h.c0 (ch7 dv c K T nm k) j).1
    have a2 := rst_nonneg h hk ((okR_iff h hk j).1 hj)
    omega
  rcases bestN_ok T hf with ⟨_, h5⟩ | ⟨i, h5, h6, h7, h8⟩
  · have := h5 _ h1
    rw [(okR_iff h hk _).2 h2] at this
    cases this
  · have a1 := h3 i h5 ((okR_iff h hk i).1 h6)
    have a2 := h8 _ h1 ((okR_iff h hk _).2 h2)
    rw [h7]
    unfold left7
    simp only [val7_zero, val7_succ] at a1 ⊢
    omega
def Good7 (dv : Nat → Nat → Int) (K T : Nat) (s : Nat → Nat) : Prop := ∀ k, k < K → s k < T ∧ dv k (s k) ≠ -1
theorem cost_ge (h : Dp dv c K T nm B) {s : Nat → Nat} (hs : Good7 dv K T s) : ∀ m k : Nat, K - 1 - k = m → k < K → costTo dv c s (k + 1) - dv k (s k) + rst dv c K T k (s k) ≤ costTo dv c s K
  | 0, k, hm, hk => by
    obtain rfl : k = K - 1 := by omega
    rw [rst_last h.K1, show K - 1 + 1 = K by omega]
    omega
  | m + 1, k, hm, hk => by
    have ih := cost_ge h hs m (k + 1) (by omega) (by omega)
    obtain ⟨g1, g2⟩ := hs k hk
    obtain ⟨g3, g4⟩ := hs (k + 1) (by omega)
    rw [costTo, show (k + 1 == 0) = false from rfl, cond_false, Nat.add_sub_cancel] at ih
    rw [rst_step (by omega), show (dv k (s k) == -1) = false by simpa using g2, cond_false]
    have hf : ∀ j, j < T → okR dv c K T (k + 1) j = true → 0 ≤ chg c (s k) j + rst dv c K T (k + 1) j := fun j _ hj => by
      have a1 := (chg_bound h.c0 (s k) j).1
      have a2 := rst_nonneg h (k := k + 1) (by omega) ((okR_iff h (by omega) j).1 hj)
      omega
    rcases bestN_ok T hf with ⟨_, h5⟩ | ⟨i, h5, h6, h7, h8⟩
    · have := h5 _ g3
      rw [(okR_iff h (by omega) _).2 g4] at this
      cases this
    · have a2 := h8 _ g3 ((okR_iff h (by omega) _).2 g4)
      rw [h7]
      omega
theorem ch7_good (h : Dp dv c K T nm B) : Good7 dv K T (ch7 dv c K T nm) := fun k hk => ⟨(ch7_ok h hk).1, (ch7_ok h hk).2.1⟩
theorem costTo_congr {s s' : Nat → Nat} : ∀ k : Nat, (∀ q, q < k → s q = s' q) → costTo dv c s k = costTo dv c s' k
  | 0, _ => rfl
  | k + 1, h => by
    rw [costTo, costTo, costTo_congr k fun q hq => h q (by omega), h k (by omega)]
    cases e : k == 0
    · have : k ≠ 0 := by simpa using e
      rw [h (k - 1) (by omega)]
    · rfl
theorem cost_best (h : Dp dv c K T nm B) : ∀ k : Nat, k < K → costTo dv c (ch7 dv c K T nm) k + left7 dv c K T nm k = total7 dv c K T
  | 0, _ => by rw [left7_zero h, costTo]; omega
  | k + 1, hk => by
    have ih := cost_best h k (by omega)
    rw [left7_succ h hk, costTo]
    unfold left7 at ih
    cases k with
    | zero => simp only [val7_zero, val7_succ] at ih; simp only [beq_self_eq_true, cond_true]; omega
    | succ k => simp only [val7_zero, val7_succ] at ih; simp only [show (k + 1 == 0) = false from rfl, cond_false, Nat.add_sub_cancel]; omega
theorem cost_total (h : Dp dv c K T nm B) : costTo dv c (ch7 dv c K T nm) K = total7 dv c K T := by
  have h1 := cost_best h (K - 1) (by have := h.K1; omega)
  obtain ⟨k, rfl⟩ : ∃ k, K = k + 1 := ⟨K - 1, by have := h.K1; omega⟩
  rw [Nat.add_sub_cancel] at h1
  have h2 := rst_last (dv := dv) (c := c) (K := k + 1) (T := T) h.K1 (ch7 dv c (k + 1) T nm k)
  rw [Nat.add_sub_cancel] at h2
  rw [costTo]
  unfold left7 at h1
  cases k with
  | zero => simp only [val7_zero, val7_succ] at h1; simp only [beq_self_eq_true, cond_true]; omega
  | succ k => simp only [val7_zero, val7_succ] at h1; simp only [show (k + 1 == 0) = false from rfl, cond_false, Nat.add_sub_cancel]; omega
theorem cost_least (h : Dp dv c K T nm B) {s : Nat → Nat} (hs : Good7 dv K T s) : total7 dv c K T ≤ costTo dv c s K := by
  have h1 := cost_ge h hs _ 0 rfl h.K1
  obtain ⟨g1, g2⟩ := hs 0 h.K1
  obtain ⟨a1, a2, a3⟩ := ch7_ok h h.K1
  have a4 := a3 _ g1 g2
  rw [← left7_zero h]
  unfold left7
  simp only [val7_zero, val7_succ] at a4 ⊢
  rw [costTo, costTo] at h1
  simp only [beq_self_eq_true, cond_true] at h1
  omega
theorem cost_tie (h : Dp dv c K T nm B) {s : Nat → Nat} (hs : Good7 dv K T s) (he : costTo dv c s K = total7 dv c K T) {k : Nat} (hk : k < K) (hp : ∀ q, q < k → s q = ch7 dv c K T nm q) (hne : s k ≠ ch7 dv c K T nm k) :
    nmLt (nm (ch7 dv c K T nm k)) (nm (s k)) = true := by
  have h1 := cost_ge h hs _ k rfl hk
  have h2 := cost_best h k hk
  obtain ⟨g1, g2⟩ := hs k hk
  obtain ⟨_, _, a3⟩ := ch7_ok h hk
  have h3 : costTo dv c s (k + 1) - dv k (s k) + rst dv c K T k (s k) = costTo dv c (ch7 dv c K T nm) k + val7 dv c K T nm k (s k) := by
    rw [costTo, costTo_congr k hp]
    cases k with
    | zero => simp only [val7_zero, val7_succ]; simp only [beq_self_eq_true, cond_true]; omega
    | succ k => simp only [val7_zero, val7_succ]; simp only [show (k + 1 == 0) = false from rfl, cond_false, Nat.add_sub_cancel]; rw [hp k (by omega)]; omega
  unfold left7 at h2
  rcases a3 _ g1 g2 with a4 | ⟨_, a4 | a4⟩
  · omega
  · exact absurd a4 hne
  · exact a4
theorem price_le {pr : Nat → Nat → Int} (h0 : ∀ j, j < T → dv 0 j ≠ -1 → pr 0 j ≤ dv 0 j) (h1 : ∀ k i j, k + 1 < K → i < T → j < T → dv k i ≠ -1 → dv (k + 1) j ≠ -1 → pr (k + 1) j ≤ pr k i + dv (k + 1) j + chg c i j)
    {s : Nat → Nat} (hs : Good7 dv K T s) : ∀ k, k < K → pr k (s k) ≤ costTo dv c s (k + 1)
  | 0, hk => by
    have := h0 _ (hs 0 hk).1 (hs 0 hk).2
    rw [costTo, costTo]
    simp only [beq_self_eq_true, cond_true]
    omega
  | k + 1, hk => by
    have ih := price_le h0 h1 hs k (by omega)
    have := h1 k (s k) (s (k + 1)) hk (hs k (by omega)).1 (hs (k + 1) hk).1 (hs k (by omega)).2 (hs (k + 1) hk).2
    rw [costTo]
    simp only [show (k + 1 == 0) = false from rfl, cond_false, Nat.add_sub_cancel]
    omega
theorem pr7_ok (h : Dp dv c K T nm B) : ∀ k, k < K → ∀ j, dv k j ≠ -1 → 0 ≤ pr7 dv c T k j ∧ pr7 dv c T k j ≤ (k + 1) * (B + c) ∧ (j < T → ∃ s : Nat → Nat, (∀ q, q ≤ k → s q < T ∧ dv q (s q) ≠ -1) ∧ s k = j ∧ costTo dv c s (k + 1) = pr7 dv c T k j)
  | 0, _, j, hj => by
    have hb := h.rng 0 j
    have hc := h.c0
    rw [pr7, show (dv 0 j == -1) = false by simpa using hj, cond_false]
    refine ⟨by omega, by omega, fun hjT => ⟨fun _ => j, fun q hq => ?_, rfl, ?_⟩⟩
    · obtain rfl : q = 0 := by omega
      exact ⟨hjT, hj⟩
    · rw [costTo, costTo]; simp only [beq_self_eq_true, cond_true]; omega
  | k + 1, hk, j, hj => by
    have ih := pr7_ok h k (by omega)
    have hb := h.rng (k + 1) j
    obtain ⟨i0, hi0, hi1⟩ := h.some k (by omega)
    rw [pr7, show (dv (k + 1) j == -1) = false by simpa using hj, cond_false]
    have hf : ∀ i, i < T → (fun i => dv k i != -1) i = true → 0 ≤ pr7 dv c T k i + chg c i j := fun i _ hi => by
      have a1 := (ih i (by simpa using hi)).1
      have a2 := (chg_bound h.c0 i j).1
      omega
    rcases bestN_ok T hf with ⟨_, h2⟩ | ⟨i, h1, h2, h3, h4⟩
    · have := h2 i0 hi0
      simp at this
      exact absurd this hi1
    · have hid : dv k i ≠ -1 := by simpa using h2
      obtain ⟨a1, a2, a3⟩ := ih i hid
      obtain ⟨s, b1, b2, b3⟩ := a3 h1
      have hcb := chg_bound h.c0 i j
      have h8 : ((k + 1 : Nat) + 1 : Int) * (B + c) = (k + 1) * (B + c) + (B + c) := by rw [Int.add_mul, Int.one_mul]; simp
      rw [h3]
      refine ⟨by omega, by rw [h8]; omega, fun hjT => ⟨fun q => if q ≤ k then s q else j, fun q hq => ?_, if_neg (by omega), ?_⟩⟩
      · by_cases e : q ≤ k
        · simp only [e, if_true]; exact b1 q e
        · obtain rfl : q = k + 1 := by omega
          simp only [e, if_false]; exact ⟨hjT, hj⟩
      · rw [costTo, costTo_congr (s' := s) (k + 1) (fun q hq => if_pos (show q ≤ k by omega)), b3]
        simp only [show (k + 1 == 0) = false from rfl, cond_false, Nat.add_sub_cancel, Nat.le_refl, if_true, show ¬ k + 1 ≤ k by omega, if_false, b2]
        omega
theorem pr7_bound (h : Dp dv c K T nm B) : bestN (fun j => dv (K - 1) j != -1) (pr7 dv c T (K - 1)) T = total7 dv c K T := by
  have hK := h.K1
  have hf : ∀ j, j < T → (fun j => dv (K - 1) j != -1) j = true → 0 ≤ pr7 dv c T (K - 1) j := fun j _ hj => (pr7_ok h (K - 1) (by omega) j (by simpa using hj)).1
  obtain ⟨j0, hj0, hj1⟩ := h.some (K - 1) (by omega)
  rcases bestN_ok T hf with ⟨_, h2⟩ | ⟨j, h1, h2, h3, h4⟩
  · have := h2 j0 hj0
    simp at this
    exact absurd this hj1
  · rw [h3]
    have hjd : dv (K - 1) j ≠ -1 := by simpa using h2
    obtain ⟨s, b1, b2, b3⟩ := (pr7_ok h (K - 1) (by omega) j hjd).2.2 h1
    have hg : Good7 dv K T s := fun k hk => b1 k (by omega)
    have a1 := cost_least h hg
    rw [show K - 1 + 1 = K by omega] at b3
    have hgc := ch7_good h
    have a2 := price_le (dv := dv) (c := c) (K := K) (T := T) (pr := pr7 dv c T) (fun j _ hj => by rw [pr7, show (dv 0 j == -1) = false by simpa using hj, cond_false]; exact Int.le_refl _)
      (fun k i j hk hi hj hdi hdj => by
        rw [pr7, show (dv (k + 1) j == -1) = false by simpa using hdj, cond_false]
        rcases bestN_ok (ok := fun i => dv k i != -1) (f := fun i => pr7 dv c T k i + chg c i j) T (fun i _ hi => by
          have a1 := (pr7_ok h k (by omega) i (by simpa using hi)).1
          have a2 := (chg_bound h.c0 i j).1
          omega) with ⟨_, e2⟩ | ⟨i', e1, e2, e3, e4⟩
        · have := e2 i hi
          simp at this
          exact absurd this hdi
        · have := e4 i hi (by simpa using hdi)
          rw [e3]
          omega) hgc (K - 1) (by omega)
    rw [show K - 1 + 1 = K by omega, cost_total h] at a2
    have a3 := h4 _ (hgc (K - 1) (by omega)).1 (by simpa using (hgc (K - 1) (by omega)).2)
    omega
end
def cov (ts : List Tf) (g k i : Nat) : Bool := (List.range g).all fun q => hasAt (gt7 ts i) ((k * g + q : Nat) : Int)
def dvTo (ts : List Tf) (g k i : Nat) (n : Nat) : Int := sumTo (fun q => ((smp (gt7 ts i) ((k * g + q : Nat) : Int) - medAt ts ((k * g + q : Nat) : Int)).natAbs : Int)) n
def dvn (ts : List Tf) (g k i : Nat) : Int := bif cov ts g k i then dvTo ts g k i g else -1
theorem cov_bad {ts : List Tf} {g k i q : Nat} (hq : q < g) (h : hasAt (gt7 ts i) ((k * g + q : Nat) : Int) = false) : cov ts g k i = false := by
  unfold cov
  rw [List.all_eq_false]
  exact ⟨q, List.mem_range.2 hq, by simpa using h⟩
theorem cov_iff {ts : List Tf} {g k i : Nat} : cov ts g k i = true ↔ ∀ q, q < g → hasAt (gt7 ts i) ((k * g + q : Nat) : Int) = true := by
  unfold cov
  rw [List.all_eq_true]
  exact ⟨fun h q hq => h q (List.mem_range.2 hq), fun h q hq => h q (List.mem_range.1 hq)⟩
theorem colTo_pos {ts : List Tf} {p : Int} {i : Nat} (h : hasAt (gt7 ts i) p = true) : ∀ n, i < n → 1 ≤ (colTo ts p n).length
  | n + 1, hi => by
    rw [colTo]
    by_cases e : i = n
    · subst e; rw [h, cond_true, List.length_append, List.length_singleton]; omega
    · have := colTo_pos h n (by omega)
      cases hasAt (gt7 ts n) p
      · exact this
      · rw [cond_true, List.length_append]; omega
theorem dvTo_bound {ts : List Tf} (h : TfOk ts) {i : Nat} (hi : i < ts.length) (g k : Nat) (n : Nat) : 0 ≤ dvTo ts g k i n ∧ dvTo ts g k i n ≤ n * 65534 := by
  refine sumTo_bound fun q hq => ?_
  have h1 := smp_bound h hi ((k * g + q : Nat) : Int)
  have h2 := medAt_bound h ((k * g + q : Nat) : Int)
  omega
def devRow (ts : List Tf) (g k : Nat) : List Int := (List.range ts.length).map (dvn ts g k)
def devTo (ts : List Tf) (g k n : Nat) : List Int := (List.range n).map (dvn ts g k)
theorem devTo_len (ts : List Tf) (g k n : Nat) : (devTo ts g k n).length = n := by simp [devTo]
theorem devTo_succ (ts : List Tf) (g k n : Nat) : devTo ts g k n ++ [dvn ts g k n] = devTo ts g k (n + 1) := by simp [devTo, List.range_succ]
theorem devRow_len (ts : List Tf) (g k : Nat) : (devRow ts g k).length = ts.length := by simp [devRow]
theorem gi_devRow {ts : List Tf} {g k i : Nat} (h : i < ts.length) : gi (devRow ts g k) (i : Nat) = dvn ts g k i := by simp [gi, devRow, h]
def gap7 (ts : List Tf) (g k : Nat) : Bool := (devRow ts g k).all fun n => n == -1
def gaps7 (ts : List Tf) (g K : Nat) : Bool := (List.range K).any (gap7 ts g)
theorem gaps7_false {ts : List Tf} {g K : Nat} : gaps7 ts g K = false ↔ ∀ k, k < K → gap7 ts g k = false := by simp [gaps7]
theorem gaps7_at {ts : List Tf} {g K k : Nat} (h : k < K) (hk : gap7 ts g k = true) : gaps7 ts g K = true := by
  unfold gaps7; rw [List.any_eq_true]; exact ⟨k, List.mem_range.2 h, hk⟩
def tkE1 (ts : List Tf) (n g c : Int) : Int := firstE [(ckT ts).2, lengthE n, unlessE (within g 1 n && within c 0 1000000) 2]
def tkE2 (n g : Int) : Int := firstE [unlessE (n.tmod g == 0) 10, unlessE (decide (n.tdiv g ≤ 20)) 8]
def tkE (ts : List Tf) (n g c : Int) : Int := bif tkE1 ts n g c != 0 then tkE1 ts n g c else bif tkE2 n g != 0 then tkE2 n g else bif gaps7 ts g.toNat (n.toNat / g.toNat) then 14 else 0
structure TkOk (ts : List Tf) (n g c : Int) (K G : Nat) : Prop where
  ok : TfOk ts
  nb : 1 ≤ n ∧ n ≤ 200
  gG : g = G
  G1 : 1 ≤ G
  cb : 0 ≤ c ∧ c ≤ 1000000
  K1 : 1 ≤ K
  K20 : K ≤ 20
  KG : n = K * G
theorem tkE1_zero {ts : List Tf} {n g c : Int} (h : tkE1 ts n g c = 0) : TfOk ts ∧ (1 ≤ n ∧ n ≤ 200) ∧ (1 ≤ g ∧ g ≤ n) ∧ (0 ≤ c ∧ c ≤ 1000000) := by
  have hf := firstE_zero h
  have h1 : (ckT ts).2 = 0 := hf _ (by simp)
  have h2 : lengthE n = 0 := hf _ (by simp)
  have h3 := unlessE_zero (by decide) (hf (unlessE (within g 1 n && within c 0 1000000) 2) (by simp))
  simp only [Bool.and_eq_true] at h3
  refine ⟨(ckT_zero h1).1, ?_, within_iff.1 h3.1, within_iff.1 h3.2⟩
  unfold lengthE at h2
  cases hw : within n 1 200 <;> rw [hw] at h2
  · cases h2
  · exact within_iff.1 hw
theorem tk_ok {ts : List Tf} {n g c : Int} (h1 : tkE1 ts n g c = 0) (h2 : tkE2 n g = 0) : TkOk ts n g c (n.toNat / g.toNat) g.toNat := by
  obtain ⟨a, b, d, e⟩ := tkE1_zero h1
  have hf := firstE_zero h2
  have m1 := unlessE_zero (by decide) (hf (unlessE (n.tmod g == 0) 10) (by simp))
  have m2 := of_decide_eq_true (unlessE_zero (by decide) (hf (unlessE (decide (n.tdiv g ≤ 20)) 8) (by simp)))
  have m1' : n.tmod g = 0 := by simpa using m1
  obtain ⟨N, rfl⟩ : ∃ N : Nat, n = N := ⟨n.toNat, by omega⟩
  obtain ⟨G, rfl⟩ : ∃ G : Nat, g = G := ⟨g.toNat, by omega⟩
  rw [← Int.ofNat_tmod] at m1'
  rw [← Int.ofNat_tdiv] at m2
  rw [Int.toNat_natCast, Int.toNat_natCast]
  have hdm := Nat.div_add_mod N G
  have m0 : N % G = 0 := by omega
  have hG : 0 < G := by omega
  refine ⟨a, b, rfl, by omega, e, Nat.div_pos (by omega) hG, by omega, ?_⟩
  rw [m0, Nat.add_zero, Nat.mul_comm] at hdm
  rw [← Int.natCast_mul, hdm]
end Go.Proofs.YtabmhfmglhjmjaaGreatDoor

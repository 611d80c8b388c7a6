/- Plain: whole numbers of any size, as digits to the base 10^9. -/
import Derived.Test.YtbobgnkohnbonaaS05m
set_option linter.unusedSimpArgs false
set_option linter.unusedVariables false
namespace Go.Proofs.Ytbobgnkohnbonaa
open Go.Ab
def dval : List Int → Int
  | [] => 0
  | d :: l => d + 1000000000 * dval l
def InR (l : List Int) : Prop := ∀ d ∈ l, 0 ≤ d ∧ d < 1000000000
def digs (n : Nat) : List Int := if h : n = 0 then [] else ((n % 1000000000 : Nat) : Int) :: digs (n / 1000000000)
termination_by n
decreasing_by omega
theorem digs_zero : digs 0 = [] := by rw [digs]; rfl
theorem digs_pos {n : Nat} (h : n ≠ 0) : digs n = ((n % 1000000000 : Nat) : Int) :: digs (n / 1000000000) := by rw [digs, dif_neg h]
theorem inR_nil : InR [] := fun d h => by cases h
theorem inR_cons {d : Int} {l : List Int} : InR (d :: l) ↔ (0 ≤ d ∧ d < 1000000000) ∧ InR l := by
  unfold InR; simp
theorem inR_app {l m : List Int} : InR (l ++ m) ↔ InR l ∧ InR m := by
  unfold InR
  simp only [List.mem_append]
  exact ⟨fun h => ⟨fun d hd => h d (.inl hd), fun d hd => h d (.inr hd)⟩, fun h d hd => hd.elim (h.1 d) (h.2 d)⟩
theorem inR_gi {l : List Int} (h : InR l) (i : Int) : 0 ≤ gi l i ∧ gi l i < 1000000000 := by
  unfold gi
  rw [List.getD_eq_getElem?_getD]
  cases hq : l[i.toNat]? with
  | none => exact ⟨by decide, by decide⟩
  | some d => exact h d (List.mem_of_getElem? hq)
theorem inR_set {l : List Int} (h : InR l) {j : Nat} {v : Int} (hv : 0 ≤ v ∧ v < 1000000000) : InR (l.set j v) := fun d hd => by
  rcases List.mem_or_eq_of_mem_set hd with q | q
  · exact h d q
  · subst q; exact hv
theorem dval_nonneg : ∀ {l : List Int}, InR l → 0 ≤ dval l
  | [], _ => Int.le_refl 0
  | d :: l, h => by
    have := inR_cons.1 h
    have := dval_nonneg this.2
    simp only [dval]
    omega
theorem dval_app : ∀ l m : List Int, dval (l ++ m) = dval l + 1000000000 ^ l.length * dval m
  | [], m => by simp [dval]
  | d :: l, m => by
    have := dval_app l m
    simp only [List.cons_append, dval, List.length_cons, this]
    rw [Int.pow_succ, Int.mul_add, Int.mul_comm (1000000000 ^ l.length) 1000000000, Int.mul_assoc]
    omega
theorem dval_snoc (l : List Int) (d : Int) : dval (l ++ [d]) = dval l + 1000000000 ^ l.length * d := by
  rw [dval_app]; simp [dval]
theorem pow_pos' (n : Nat) : 0 < (1000000000 : Int) ^ n := Int.pow_pos (by decide)
theorem dval_lt : ∀ {l : List Int}, InR l → dval l < 1000000000 ^ l.length
  | [], _ => by decide
  | d :: l, h => by
    have h1 := inR_cons.1 h
    have h2 := dval_lt h1.2
    simp only [dval, List.length_cons, Int.pow_succ]
    omega
theorem digs_ok (n : Nat) : InR (digs n) ∧ dval (digs n) = n := by
  induction n using Nat.strongRecOn with
  | _ n ih =>
    by_cases h : n = 0
    · subst h; rw [digs_zero]; exact ⟨inR_nil, rfl⟩
    · rw [digs_pos h]
      obtain ⟨h1, h2⟩ := ih (n / 1000000000) (by omega)
      refine ⟨inR_cons.2 ⟨by omega, h1⟩, ?_⟩
      simp only [dval, h2]
      omega
theorem dval_zero_of : ∀ {l : List Int}, InR l → dval l = 0 → ∀ d ∈ l, d = 0
  | [], _, _ => fun d hd => by cases hd
  | d :: l, h, h0 => by
    have h1 := inR_cons.1 h
    have h2 := dval_nonneg h1.2
    simp only [dval] at h0
    have hl : dval l = 0 := by omega
    intro e he
    rcases List.mem_cons.1 he with q | q
    · omega
    · exact dval_zero_of h1.2 hl e q
theorem digs_uniq : ∀ {l : List Int}, InR l → (l ≠ [] → l.getLast? ≠ some 0) → l = digs (dval l).toNat
  | [], _, _ => by simp [dval, digs_zero]
  | d :: l, h, hl => by
    have h1 := inR_cons.1 h
    have h2 := dval_nonneg h1.2
    have hne : dval (d :: l) ≠ 0 := fun h0 => by
      have := dval_zero_of h h0
      refine hl (by simp) ?_
      rw [List.getLast?_eq_some_getLast (by simp)]
      rw [this _ (List.getLast_mem (by simp))]
    have hv : (dval (d :: l)).toNat = d.toNat + 1000000000 * (dval l).toNat := by simp only [dval]; omega
    rw [digs_pos (by simp only [dval] at hne ⊢; omega), hv]
    have e1 : ((d.toNat + 1000000000 * (dval l).toNat) % 1000000000 : Nat) = d.toNat := by omega
    have e2 : (d.toNat + 1000000000 * (dval l).toNat) / 1000000000 = (dval l).toNat := by omega
    rw [e1, e2, ← digs_uniq h1.2 fun hn => by
      have := hl (by simp)
      cases l with
      | nil => exact absurd rfl hn
      | cons a t => simpa using this]
    rw [Int.toNat_of_nonneg h1.1.1]
theorem digs_len {n k : Nat} (h : n < 1000000000 ^ k) : (digs n).length ≤ k := by
  induction k generalizing n with
  | zero => obtain rfl : n = 0 := by simpa using h
            rw [digs_zero]; exact Nat.le_refl _
  | succ k ih =>
    by_cases h0 : n = 0
    · subst h0; rw [digs_zero]; exact Nat.zero_le _
    · rw [digs_pos h0, List.length_cons]
      have : n / 1000000000 < 1000000000 ^ k := by rw [Nat.div_lt_iff_lt_mul (by decide)]; rw [Nat.pow_succ] at h; exact h
      have := ih this
      omega
theorem digs_low {n : Nat} (h : n ≠ 0) : 1000000000 ^ ((digs n).length - 1) ≤ n := by
  induction n using Nat.strongRecOn with
  | _ n ih =>
    rw [digs_pos h, List.length_cons, Nat.add_sub_cancel]
    by_cases h2 : n / 1000000000 = 0
    · rw [h2, digs_zero]; show 1 ≤ n; omega
    · have h3 := ih (n / 1000000000) (by omega) h2
      have h4 : 0 < (digs (n / 1000000000)).length := by rw [digs_pos h2]; simp
      obtain ⟨q, hq⟩ : ∃ q, (digs (n / 1000000000)).length = q + 1 := ⟨_, (Nat.sub_add_cancel h4).symm⟩
      rw [hq] at h3 ⊢
      rw [Nat.pow_succ]
      simp only [Nat.add_sub_cancel] at h3
      omega
theorem digs_lt {m n : Nat} (h : (digs m).length < (digs n).length) : m < n := by
  have h1 := dval_lt (digs_ok m).1
  rw [(digs_ok m).2] at h1
  have h0 : n ≠ 0 := fun e => by subst e; rw [digs_zero] at h; simp at h
  have h2 := digs_low h0
  have h3 : (1000000000 : Nat) ^ (digs m).length ≤ 1000000000 ^ ((digs n).length - 1) := Nat.pow_le_pow_right (by decide) (by omega)
  have h4 : m < (1000000000 : Nat) ^ (digs m).length := by
    rw [show (1000000000 : Int) = ((1000000000 : Nat) : Int) from rfl, ← Int.natCast_pow] at h1
    exact Int.ofNat_lt.1 h1
  omega
theorem dval_gi : ∀ {l : List Int} {i : Nat}, i < l.length → dval l = dval (l.take i) + 1000000000 ^ i * (gi l (i : Nat) + 1000000000 * dval (l.drop (i + 1))) := fun {l i} h => by
  have e : l = l.take i ++ (l[i] :: l.drop (i + 1)) := by rw [← List.drop_eq_getElem_cons h, List.take_append_drop]
  have g : gi l (i : Nat) = l[i] := by simp [gi, h]
  conv => lhs; rw [e]
  rw [dval_app, List.length_take, Nat.min_eq_left (by omega), g]
  rfl
theorem dval_take_succ {l : List Int} {i : Nat} : dval (l.take (i + 1)) = dval (l.take i) + 1000000000 ^ i * gi l (i : Nat) := by
  by_cases h : i < l.length
  · have g : gi l (i : Nat) = l[i] := by simp [gi, h]
    rw [List.take_succ_eq_append_getElem h, dval_snoc, List.length_take, Nat.min_eq_left (by omega), g]
  · have g : gi l (i : Nat) = 0 := by simp [gi, h]
    rw [List.take_of_length_le (by omega), List.take_of_length_le (by omega), g]
    simp
theorem dval_set {l : List Int} {j : Nat} (v : Int) (h : j < l.length) : dval (l.set j v) = dval l + 1000000000 ^ j * (v - gi l (j : Nat)) := by
  have h1 := dval_gi (l := l.set j v) (i := j) (by simpa using h)
  have h2 := dval_gi h
  have g : gi (l.set j v) (j : Nat) = v := by simp [gi, h]
  rw [g, List.take_set_of_le (Nat.le_refl j), List.drop_set_of_lt (by omega)] at h1
  rw [h1, h2]
  simp only [Int.mul_add, Int.mul_sub]
  omega
theorem inR_take {l : List Int} (h : InR l) (i : Nat) : InR (l.take i) := fun d hd => h d (List.mem_of_mem_take hd)
def cmpI (m n : Int) : Int := bif decide (m < n) then -1 else bif decide (n < m) then 1 else 0
theorem cmp_top {a b : List Int} {i : Nat} (ha : InR a) (hb : InR b) (hla : i < a.length) (hlb : i < b.length) (hd : a.drop (i + 1) = b.drop (i + 1)) (h : gi a (i : Nat) < gi b (i : Nat)) : dval a < dval b := by
  rw [dval_gi hla, dval_gi hlb, hd]
  have h1 := dval_lt (inR_take ha i)
  rw [List.length_take, Nat.min_eq_left (by omega)] at h1
  have h2 := dval_nonneg (inR_take hb i)
  have h3 := pow_pos' i
  have h4 : (1000000000 : Int) ^ i * (gi a (i : Nat) + 1) ≤ 1000000000 ^ i * gi b (i : Nat) := Int.mul_le_mul_of_nonneg_left (by omega) (by omega)
  simp only [Int.mul_add, Int.mul_one] at h4 ⊢
  omega
def addC (a b : List Int) : Nat → Int
  | 0 => 0
  | i + 1 => (gi a (i : Nat) + gi b (i : Nat) + addC a b i) / 1000000000
def addL (a b : List Int) : Nat → List Int
  | 0 => []
  | i + 1 => addL a b i ++ [(gi a (i : Nat) + gi b (i : Nat) + addC a b i) % 1000000000]
theorem addL_len (a b : List Int) : ∀ i, (addL a b i).length = i
  | 0 => rfl
  | i + 1 => by rw [addL, List.length_append, addL_len a b i]; rfl
theorem add_ok {a b : List Int} (ha : InR a) (hb : InR b) : ∀ i, (0 ≤ addC a b i ∧ addC a b i ≤ 1) ∧ InR (addL a b i) ∧ dval (addL a b i) + 1000000000 ^ i * addC a b i = dval (a.take i) + dval (b.take i)
  | 0 => ⟨⟨Int.le_refl 0, by show (0 : Int) ≤ 1; decide⟩, inR_nil, by simp [addL, addC, dval]⟩
  | i + 1 => by
    obtain ⟨h1, h2, h3⟩ := add_ok ha hb i
    have ga := inR_gi ha (i : Nat)
    have gb := inR_gi hb (i : Nat)
    simp only [addC, addL]
    have hs : gi a (i : Nat) + gi b (i : Nat) + addC a b i = (gi a (i : Nat) + gi b (i : Nat) + addC a b i) % 1000000000 + 1000000000 * ((gi a (i : Nat) + gi b (i : Nat) + addC a b i) / 1000000000) := by omega
    refine ⟨by omega, inR_app.2 ⟨h2, inR_cons.2 ⟨by omega, inR_nil⟩⟩, ?_⟩
    rw [dval_snoc, addL_len, dval_take_succ, dval_take_succ, Int.pow_succ, Int.mul_assoc, Int.add_assoc, ← Int.mul_add, ← hs]
    simp only [Int.mul_add]
    omega
def subB (a b : List Int) : Nat → Int
  | 0 => 0
  | i + 1 => bif decide (gi a (i : Nat) - gi b (i : Nat) - subB a b i < 0) then 1 else 0
def subD (a b : List Int) (i : Nat) : Int := bif decide (gi a (i : Nat) - gi b (i : Nat) - subB a b i < 0) then gi a (i : Nat) - gi b (i : Nat) - subB a b i + 1000000000 else gi a (i : Nat) - gi b (i : Nat) - subB a b i
def subL (a b : List Int) : Nat → List Int
  | 0 => []
  | i + 1 => subL a b i ++ [subD a b i]
theorem subL_len (a b : List Int) : ∀ i, (subL a b i).length = i
  | 0 => rfl
  | i + 1 => by rw [subL, List.length_append, subL_len a b i]; rfl
theorem sub_ok {a b : List Int} (ha : InR a) (hb : InR b) : ∀ i, (0 ≤ subB a b i ∧ subB a b i ≤ 1) ∧ InR (subL a b i) ∧ dval (subL a b i) - 1000000000 ^ i * subB a b i = dval (a.take i) - dval (b.take i)
  | 0 => ⟨⟨Int.le_refl 0, by show (0 : Int) ≤ 1; decide⟩, inR_nil, by simp [subL, subB, dval]⟩
  | i + 1 => by
    obtain ⟨h1, h2, h3⟩ := sub_ok ha hb i
    have ga := inR_gi ha (i : Nat)
    have gb := inR_gi hb (i : Nat)
    have hB1 : subB a b (i + 1) = bif decide (gi a (i : Nat) - gi b (i : Nat) - subB a b i < 0) then 1 else 0 := rfl
    have hD1 : subD a b i = bif decide (gi a (i : Nat) - gi b (i : Nat) - subB a b i < 0) then gi a (i : Nat) - gi b (i : Nat) - subB a b i + 1000000000 else gi a (i : Nat) - gi b (i : Nat) - subB a b i := rfl
    have hall : (subD a b i - 1000000000 * subB a b (i + 1) = gi a (i : Nat) - gi b (i : Nat) - subB a b i) ∧ (0 ≤ subB a b (i + 1) ∧ subB a b (i + 1) ≤ 1) ∧ 0 ≤ subD a b i ∧ subD a b i < 1000000000 := by
      by_cases hq : gi a (i : Nat) - gi b (i : Nat) - subB a b i < 0
      · rw [decide_eq_true hq, cond_true] at hB1 hD1
        omega
      · rw [decide_eq_false hq, cond_false] at hB1 hD1
        omega
    obtain ⟨hs, hr⟩ := hall
    refine ⟨hr.1, inR_app.2 ⟨h2, inR_cons.2 ⟨hr.2, inR_nil⟩⟩, ?_⟩
    simp only [subL]
    rw [dval_snoc, subL_len, dval_take_succ, dval_take_succ, Int.pow_succ, Int.mul_assoc]
    have h4 : (1000000000 : Int) ^ i * (subD a b i - 1000000000 * subB a b (i + 1)) = 1000000000 ^ i * (gi a (i : Nat) - gi b (i : Nat) - subB a b i) := by rw [hs]
    simp only [Int.mul_sub] at h4
    omega
theorem sub_last {a b : List Int} (ha : InR a) (hb : InR b) (hl : b.length ≤ a.length) (h : dval b ≤ dval a) : dval (subL a b a.length) = dval a - dval b := by
  obtain ⟨h1, h2, h3⟩ := sub_ok ha hb a.length
  rw [List.take_length, List.take_of_length_le hl] at h3
  have h4 := dval_lt h2
  rw [subL_len] at h4
  have h5 := pow_pos' a.length
  rcases (show subB a b a.length = 0 ∨ subB a b a.length = 1 by omega) with e | e
  · rw [e] at h3; omega
  · rw [e] at h3; omega
end Go.Proofs.Ytbobgnkohnbonaa

/- Parts of the proof, put together by a program. -/
import Derived.Lib.AtoiTie
import Derived.Lib.ItoaNum
import Derived.Lib.Strings
import Derived.Lib.SplitLaws
import Derived.Test.YtabmhfmglhjmjaaGreatDoorWak
set_option linter.unusedVariables false
set_option linter.unusedSimpArgs false
namespace Go.Proofs.YtabmhfmglhjmjaaGreatDoor
open Go Go.Lib
theorem dig_of (d : Nat) (h : d < 10) : digitVal (UInt8.ofNat (48 + d)) = some d ∧ (UInt8.ofNat (48 + d)).toNat = 48 + d := by
  have h1 : (UInt8.ofNat (48 + d)).toNat = 48 + d := by
    rw [UInt8.toNat_ofNat']; omega
  refine ⟨?_, h1⟩
  unfold digitVal
  rw [h1, if_pos (by omega)]
  congr 1
  omega
theorem ofNat_dig {b : UInt8} {d : Nat} (h : digitVal b = some d) : UInt8.ofNat (48 + d) = b ∧ d < 10 := by
  obtain ⟨h1, h2, h3⟩ := digitVal_eq h
  refine ⟨?_, by omega⟩
  have : 48 + d = b.toNat := by omega
  rw [this]
  exact UInt8.ofNat_toNat
theorem decFrom_append : ∀ (l : List UInt8) (acc : Nat) (b : UInt8), decFrom acc (l ++ [b]) = (decFrom acc l).bind fun n => (digitVal b).map fun d => n * 10 + d
  | [], acc, b => by
    simp only [List.nil_append, decFrom, Option.bind_some]
    cases digitVal b <;> rfl
  | c :: l, acc, b => by
    simp only [List.cons_append, decFrom]
    cases digitVal c with
    | none => rfl
    | some d => exact decFrom_append l _ b
theorem decFrom_digits (u : Nat) : decFrom 0 (decDigits u) = some u := by
  induction u using Nat.strongRecOn with
  | _ u ih =>
    rw [decDigits]
    split
    · rename_i h
      simp only [decFrom, (dig_of u h).1]
      congr 1
      omega
    · rename_i h
      rw [decFrom_append, ih (u / 10) (by omega), (dig_of (u % 10) (by omega)).1]
      simp only [Option.bind_some, Option.map_some, Option.some.injEq]
      omega
theorem digits_ne (u : Nat) : decDigits u ≠ [] := by
  rw [decDigits]
  split
  · simp
  · simp
theorem digits_head (u : Nat) (hu : 1 ≤ u) : ∃ b r, decDigits u = b :: r ∧ 49 ≤ b.toNat ∧ b.toNat ≤ 57 := by
  induction u using Nat.strongRecOn with
  | _ u ih =>
    rw [decDigits]
    split
    · rename_i h
      exact ⟨_, [], rfl, by rw [(dig_of u h).2]; omega, by rw [(dig_of u h).2]; omega⟩
    · rename_i h
      obtain ⟨b, r, h1, h2, h3⟩ := ih (u / 10) (by omega) (by omega)
      exact ⟨b, r ++ [UInt8.ofNat (48 + u % 10)], by rw [h1]; rfl, h2, h3⟩
theorem digits_zero : decDigits 0 = [48] := by rw [decDigits]; rfl
theorem decFrom_pos : ∀ (l : List UInt8) (acc n : Nat), decFrom acc l = some n → 1 ≤ acc → 1 ≤ n
  | [], acc, n, h, ha => by simp only [decFrom, Option.some.injEq] at h; omega
  | b :: l, acc, n, h, ha => by
    simp only [decFrom] at h
    cases hd : digitVal b with
    | none => rw [hd] at h; cases h
    | some d => rw [hd] at h; exact decFrom_pos l _ n h (by omega)
theorem digits_of (l : List UInt8) : ∀ n : Nat, decFrom 0 l = some n → l ≠ [] → (l.head? = some 48 → l.length = 1) → decDigits n = l := by
  induction hl : l.length using Nat.strongRecOn generalizing l with
  | _ k ih =>
    intro n h hne hz
    rcases List.eq_nil_or_concat l with rfl | ⟨r, b, rfl⟩
    · exact absurd rfl hne
    · rw [List.concat_eq_append] at *
      rw [decFrom_append] at h
      cases hr : decFrom 0 r with
      | none => rw [hr] at h; cases h
      | some m =>
        rw [hr] at h
        cases hb : digitVal b with
        | none => rw [hb] at h; cases h
        | some d =>
          rw [hb] at h
          simp only [Option.bind_some, Option.map_some, Option.some.injEq] at h
          obtain ⟨hbe, hd⟩ := ofNat_dig hb
          by_cases hr0 : r = []
          · subst hr0
            simp only [decFrom, Option.some.injEq] at hr
            have hn : n = d := by omega
            subst hn
            rw [decDigits, dif_pos hd, hbe]; rfl
          · have hm : 1 ≤ m := by
              cases r with
              | nil => exact absurd rfl hr0
              | cons c r =>
                simp only [decFrom] at hr
                cases hc : digitVal c with
                | none => rw [hc] at hr; cases hr
                | some e =>
                  rw [hc] at hr
                  refine decFrom_pos r _ m hr ?_
                  have hc0 : c ≠ 48 := fun e0 => by
                    have := hz (by simp [e0])
                    rw [← hl] at this
                    simp at this
                  obtain ⟨g1, g2, g3⟩ := digitVal_eq hc
                  have : c.toNat ≠ 48 := fun e0 => hc0 (UInt8.toNat_inj.1 e0)
                  omega
            have hdr := ih r.length (by rw [← hl]; simp) r rfl m hr hr0 (fun h48 => by
              cases r with
              | nil => exact absurd rfl hr0
              | cons c r =>
                have := hz (by simpa using h48)
                rw [← hl] at this
                simp at this)
            rw [decDigits, dif_neg (by omega), show n / 10 = m by omega, show n % 10 = d by omega, hdr, hbe]
def numR (D : Nat) (l : List UInt8) : Option Int :=
  let at' := if l.head? = some 45 then 1 else 0
  if l.length = at' ∨ D < l.length - at' ∨ (l[at']? = some 48 ∧ 1 < l.length) then none
  else (decFrom 0 (l.drop at')).map fun (u : Nat) => if at' = 1 then -(u : Int) else (u : Int)
def numP (D : Nat) (l : List UInt8) : Bool := match atoiAll l with
  | .ok v => decide (itoa v = l) && decide ((trimPrefix l [45]).length ≤ D)
  | _ => false
def numV (l : List UInt8) : Int := match atoiAll l with
  | .ok v => v
  | .range => atoiSat l
  | _ => 0
theorem atoi_itoa {u : Nat} : atoi (itoa (u : Int)) = some (u : Int) ∧ (1 ≤ u → atoi (itoa (-(u : Int))) = some (-(u : Int))) := by
  have hp : ∀ l : List UInt8, l ≠ [] → decNat l = decFrom 0 l := fun l h => by
    unfold decNat
    cases l with
    | nil => exact absurd rfl h
    | cons a r => rfl
  constructor
  · unfold itoa
    rw [if_neg (by omega), Int.toNat_natCast]
    by_cases h0 : u = 0
    · subst h0; rw [digits_zero]; rfl
    · obtain ⟨b, r, h1, h2, h3⟩ := digits_head u (by omega)
      have hb1 : (b == 45) = false := by rw [beq_eq_false_iff_ne]; intro e; subst e; simp at h2
      have hb2 : (b == 43) = false := by rw [beq_eq_false_iff_ne]; intro e; subst e; simp at h2
      rw [h1]
      unfold atoi
      simp only [hb1, hb2, Bool.false_eq_true, if_false]
      rw [hp _ (by simp), ← h1, decFrom_digits]; rfl
  · intro h1
    unfold itoa
    rw [if_pos (by omega)]
    unfold atoi
    simp only [beq_self_eq_true, if_true]
    rw [show (-(u : Int)).natAbs = u by omega, hp _ (digits_ne u), decFrom_digits]; rfl
theorem trim_minus (r : List UInt8) : trimPrefix (45 :: r) [45] = r := by simp [trimPrefix, hasPrefix]
theorem trim_other {l : List UInt8} (h : l.head? ≠ some 45) : trimPrefix l [45] = l := by
  unfold trimPrefix hasPrefix
  cases l with
  | nil => rfl
  | cons a r =>
    have : (45 == a) = false := by rw [beq_eq_false_iff_ne]; intro e; subst e; simp at h
    simp [List.isPrefixOf, this]
theorem num_same {D : Nat} (hD : D ≤ 17) (l : List UInt8) : (numP D l = true ↔ ∃ v, numR D l = some v) ∧ ∀ v, numR D l = some v → numV l = v := by
  have hfw : ∀ v, numR D l = some v → atoiAll l = .ok v ∧ itoa v = l ∧ (trimPrefix l [45]).length ≤ D := by
    intro v h
    unfold numR at h
    by_cases h45 : l.head? = some 45
    · obtain ⟨r, rfl⟩ : ∃ r, l = 45 :: r := by
        cases l with
        | nil => cases h45
        | cons a r => simp at h45; exact ⟨r, by rw [h45]⟩
      simp only [List.head?_cons, if_true, List.length_cons, List.drop_succ_cons, List.drop_zero, List.getElem?_cons_succ] at h
      split at h
      · cases h
      · rename_i hc
        rw [not_or, not_or] at hc
        obtain ⟨c1, c2, c3⟩ := hc
        cases hu : decFrom 0 r with
        | none => rw [hu] at h; cases h
        | some u =>
          rw [hu] at h
          simp only [Option.map_some, Option.some.injEq] at h
          have hne : r ≠ [] := fun e => by subst e; simp at c1
          have hz : r.head? ≠ some 48 := fun e => by
            refine c3 ⟨?_, ?_⟩
            · cases r with
              | nil => cases e
              | cons a r => simpa using e
            · have : r.length ≠ 0 := fun e => hne (List.eq_nil_of_length_eq_zero e)
              omega
          have hdg := digits_of r u hu hne (fun e => absurd e hz)
          have hu1 : 1 ≤ u := by
            rcases Nat.eq_zero_or_pos u with rfl | h
            · rw [digits_zero] at hdg; subst hdg; simp at hz
            · exact h
          subst h
          have hit : itoa (-(u : Int)) = 45 :: r := by
            unfold itoa
            rw [if_pos (by omega), show (-(u : Int)).natAbs = u by omega, hdg]
          refine ⟨?_, hit, by rw [trim_minus]; omega⟩
          rw [atoiAll_short _ (by simp; omega), ← hit, atoi_itoa.2 hu1]; rfl
    · simp only [h45, if_false, List.drop_zero, Nat.sub_zero] at h
      split at h
      · cases h
      · rename_i hc
        rw [not_or, not_or] at hc
        obtain ⟨c1, c2, c3⟩ := hc
        cases hu : decFrom 0 l with
        | none => rw [hu] at h; cases h
        | some u =>
          rw [hu] at h
          simp only [Option.map_some, Option.some.injEq] at h
          have hne : l ≠ [] := fun e => by subst e; simp at c1
          have hdg := digits_of l u hu hne (fun e => by
            have : ¬ 1 < l.length := fun h1 => c3 ⟨by
              cases l with
              | nil => cases e
              | cons a r => simpa using e, h1⟩
            have : l.length ≠ 0 := fun e => hne (List.eq_nil_of_length_eq_zero e)
            omega)
          have hv : v = (u : Int) := by simpa using h.symm
          subst hv
          have hit : itoa (u : Int) = l := by
            unfold itoa
            rw [if_neg (by omega), Int.toNat_natCast, hdg]
          refine ⟨?_, hit, by rw [trim_other h45]; omega⟩
          rw [atoiAll_short _ (by omega), ← hit, atoi_itoa.1]; rfl
  refine ⟨⟨fun h => ?_, fun ⟨v, h⟩ => ?_⟩, fun v h => ?_⟩
  · unfold numP at h
    split at h
    · rename_i v hv
      rw [Bool.and_eq_true, decide_eq_true_eq, decide_eq_true_eq] at h
      obtain ⟨h1, h2⟩ := h
      refine ⟨v, ?_⟩
      unfold numR
      by_cases hneg : v < 0
      · have hl : l = 45 :: decDigits v.natAbs := by rw [← h1]; unfold itoa; rw [if_pos hneg]
        subst hl
        rw [trim_minus] at h2
        obtain ⟨b, r, e1, e2, e3⟩ := digits_head v.natAbs (by omega)
        have hlen : (decDigits v.natAbs).length ≠ 0 := fun e => digits_ne _ (List.eq_nil_of_length_eq_zero e)
        have h48 : ¬ (decDigits v.natAbs)[0]? = some 48 := by
          rw [e1]; intro e; simp at e; subst e; simp at e2
        simp only [List.head?_cons, if_true, List.length_cons, List.drop_succ_cons, List.drop_zero, List.getElem?_cons_succ]
        rw [if_neg (by rintro (h | h | h); · omega
                       · omega
                       · exact h48 h.1), decFrom_digits]
        simp only [Option.map_some, Option.some.injEq]
        omega
      · have hl : l = decDigits v.toNat := by rw [← h1]; unfold itoa; rw [if_neg hneg]
        have hlen : (decDigits v.toNat).length ≠ 0 := fun e => digits_ne _ (List.eq_nil_of_length_eq_zero e)
        have hh : l.head? ≠ some 45 := by
          rw [hl]
          by_cases h0 : v.toNat = 0
          · rw [h0, digits_zero]; simp
          · obtain ⟨b, r, e1, e2, e3⟩ := digits_head v.toNat (by omega)
            rw [e1]; intro e; simp at e; subst e; simp at e2
        rw [trim_other hh] at h2
        simp only [hh, if_false, List.drop_zero, Nat.sub_zero]
        have h48 : ¬ (l[0]? = some 48 ∧ 1 < l.length) := by
          rintro ⟨e, h1⟩
          rw [hl] at e h1
          by_cases h0 : v.toNat = 0
          · rw [h0, digits_zero] at h1; simp at h1
          · obtain ⟨b, r, e1, e2, e3⟩ := digits_head v.toNat (by omega)
            rw [e1] at e; simp at e; subst e; simp at e2
        rw [if_neg (by rintro (h | h | h); · rw [hl] at h; omega
                       · omega
                       · exact h48 h), hl, decFrom_digits]
        simp only [Option.map_some, Option.some.injEq]
        rw [if_neg (by omega)]
        omega
    · cases h
  · obtain ⟨h1, h2, h3⟩ := hfw v h
    unfold numP
    rw [h1]
    simp only [h2, h3, decide_true, Bool.and_self]
  · obtain ⟨h1, _, _⟩ := hfw v h
    unfold numV
    rw [h1]
end Go.Proofs.YtabmhfmglhjmjaaGreatDoor
set_option linter.unusedVariables false
set_option linter.unusedSimpArgs false
namespace Go.Proofs.YtabmhfmglhjmjaaGreatDoor
open Go Go.Lib
def preL (p : List UInt8) : List (List UInt8) → List (List UInt8)
  | [] => [p]
  | x :: q => (p ++ x) :: q
def cutL (c : UInt8) : List UInt8 → List (List UInt8)
  | [] => [[]]
  | b :: r => if b = c then [] :: cutL c r else preL [b] (cutL c r)
theorem preL_ne (p : List UInt8) (l : List (List UInt8)) : preL p l ≠ [] := by cases l <;> simp [preL]
theorem cutL_ne (c : UInt8) (l : List UInt8) : cutL c l ≠ [] := by
  cases l with
  | nil => simp [cutL]
  | cons b r =>
    rw [cutL]
    split
    · simp
    · exact preL_ne _ _
theorem preL_nil {l : List (List UInt8)} (h : l ≠ []) : preL [] l = l := by
  cases l with
  | nil => exact absurd rfl h
  | cons x q => rfl
theorem preL_preL (p q : List UInt8) {l : List (List UInt8)} (h : l ≠ []) : preL p (preL q l) = preL (p ++ q) l := by
  cases l with
  | nil => exact absurd rfl h
  | cons x r => simp [preL]
theorem cut_hit {c : UInt8} {s : List UInt8} {i : Nat} (p : List UInt8) (h : s[i]? = some c) :
    preL p (cutL c (s.drop i)) = p :: preL [] (cutL c (s.drop (i + 1))) := by
  obtain ⟨hi, he⟩ := List.getElem?_eq_some_iff.1 h
  rw [List.drop_eq_getElem_cons hi, he, cutL, if_pos rfl, preL_nil (cutL_ne _ _)]
  simp [preL]
theorem cut_miss {c b : UInt8} {s : List UInt8} {i : Nat} (p : List UInt8) (h : s[i]? = some b) (hb : b ≠ c) :
    preL p (cutL c (s.drop i)) = preL (p ++ [b]) (cutL c (s.drop (i + 1))) := by
  obtain ⟨hi, he⟩ := List.getElem?_eq_some_iff.1 h
  rw [List.drop_eq_getElem_cons hi, he, cutL, if_neg hb, preL_preL _ _ (cutL_ne _ _)]
theorem cut_end (c : UInt8) (p : List UInt8) : preL p (cutL c []) = [p] := by simp [cutL, preL]
theorem index_cons (b c : UInt8) (l : List UInt8) (h : b ≠ c) : index (b :: l) [c] = if index l [c] == -1 then -1 else index l [c] + 1 := by
  have hp : ([c] : List UInt8).isPrefixOf (b :: l) = false := by simp [List.isPrefixOf, Ne.symm h]
  rw [index, hp]; simp
theorem split_cut (c : UInt8) : ∀ s : List UInt8, split s [c] = cutL c s
  | [] => by
    unfold split
    rw [count_miss (by simp [index])]
    rfl
  | b :: l => by
    have ih := split_cut c l
    unfold split at ih ⊢
    by_cases h : b = c
    · subst h
      have hix : index (b :: l) [b] = ((0 : Nat) : Int) := by rw [index]; simp [List.isPrefixOf]
      rw [count_cons_eq, Nat.add_comm 1, splitK, if_neg (by rw [hix]; decide), hix, cutL, if_pos rfl, ← ih]
      rfl
    · rw [count_cons_ne b c l h, cutL, if_neg h, ← ih]
      have hix := index_cons b c l h
      by_cases hm : index l [c] = -1
      · rw [count_miss hm]; rfl
      · have hge := index_ge l [c]
        obtain ⟨j, hj⟩ : ∃ j : Nat, index l [c] = j := ⟨(index l [c]).toNat, by omega⟩
        have hix' : index (b :: l) [c] = ((j + 1 : Nat) : Int) := by rw [hix, if_neg (fun e => hm (beq_iff_eq.1 e)), hj]; omega
        rw [count_hit (by simp) hj, Nat.add_comm 1, splitK, splitK, if_neg (by rw [hix']; simp; omega), if_neg (by rw [hj]; simp), hix', hj]
        simp [preL]
theorem splitB_cut (c : UInt8) (s : ByteArray) : splitB ⟨#[c]⟩ 0 (countB s ⟨#[c]⟩) s = (cutL c s.data.toList).map fun l => ⟨l.toArray⟩ := by
  have h := splitB_data ⟨#[c]⟩ 0 (countB s ⟨#[c]⟩) s
  have h2 : splitK (⟨#[c]⟩ : ByteArray).data.toList 0 (countB s ⟨#[c]⟩) s.data.toList = split s.data.toList [c] := rfl
  rw [h2, split_cut] at h
  rw [← h, List.map_map]
  conv => lhs; rw [← List.map_id (splitB _ _ _ _)]
  exact List.map_congr_left fun x _ => rfl
end Go.Proofs.YtabmhfmglhjmjaaGreatDoor
set_option maxRecDepth 100000
set_option maxHeartbeats 4000000
set_option linter.unusedSimpArgs false
set_option linter.unusedVariables false
set_option linter.unusedSectionVars false
namespace Go.Proofs.YtabmhfmglhjmjaaGreatDoor
open Go.Ab Go.RowKit
variable [Dr]
theorem size_list (s : ByteArray) : s.data.toList.length = s.size := rfl
theorem at_iff {s : ByteArray} {i : Nat} {b : UInt8} (h0 : b.toNat ≠ 0) : s.data.toList[i]? = some b ↔ byteAt s i = b.toNat := by
  unfold byteAt
  rw [List.getD_eq_getElem?_getD]
  cases h : s.data.toList[i]? with
  | none => constructor
            · intro e; cases e
            · intro e; exact absurd e.symm h0
  | some c => simp only [Option.some.injEq, Option.getD_some]; exact ⟨fun e => by rw [e], fun e => UInt8.toNat_inj.1 e⟩
def atN (s : ByteArray) : Nat := if byteAt s 0 = 45 then 1 else 0
theorem numR_eq (D : Nat) (s : ByteArray) : numR D s.data.toList = if s.size = atN s ∨ D < s.size - atN s ∨ (byteAt s (atN s) = 48 ∧ 1 < s.size) then none
    else (Lib.decFrom 0 (s.data.toList.drop (atN s))).map fun (u : Nat) => if atN s = 1 then -(u : Int) else (u : Int) := by
  have hh : (s.data.toList.head? = some 45) = (byteAt s 0 = 45) := by rw [List.head?_eq_getElem?, at_iff (by decide)]; rfl
  unfold numR
  simp only [hh, size_list, at_iff (s := s) (b := 48) (by decide)]
  rfl
theorem dec_step {s : ByteArray} {i : Nat} (hi : i < s.size) (n : Nat) : Lib.decFrom n (s.data.toList.drop i) =
    if 48 ≤ byteAt s i ∧ byteAt s i ≤ 57 then Lib.decFrom (n * 10 + (byteAt s i - 48)) (s.data.toList.drop (i + 1)) else none := by
  have hb : byteAt s i = (s.data.toList[i]'hi).toNat := by unfold byteAt; rw [List.getD_eq_getElem?_getD, List.getElem?_eq_getElem hi]; rfl
  rw [List.drop_eq_getElem_cons hi, Lib.decFrom, hb]
  unfold Lib.digitVal
  by_cases h : 48 ≤ (s.data.toList[i]'hi).toNat ∧ (s.data.toList[i]'hi).toNat ≤ 57
  · rw [if_pos h, if_pos h]
  · rw [if_neg h, if_neg h]
theorem dec_end (s : ByteArray) (n : Nat) : Lib.decFrom n (s.data.toList.drop s.size) = some n := by
  rw [List.drop_eq_nil_of_le (Nat.le_of_eq (size_list s))]; rfl
theorem byte_sub {a : Nat} (h : 48 ≤ a ∧ a ≤ 57) : IntKind.u8.wrap ((a : Int) - 48) = ((a - 48 : Nat) : Int) := by
  have : IntKind.u8.wrap ((a : Int) - 48) = ((a : Int) - 48) := by
    simp [IntKind.wrap, IntKind.bits, IntKind.signed]
    omega
  rw [this]; omega
theorem byte_room {s : ByteArray} {i : Nat} (h : byteAt s i ≠ 0) : i < s.size := by
  rcases Nat.lt_or_ge i s.size with h1 | h1
  · exact h1
  · refine absurd ?_ h
    unfold byteAt
    rw [List.getD_eq_getElem?_getD, List.getElem?_eq_none (by rw [size_list]; omega)]; rfl
theorem c_Number (s : ByteArray) (D : Nat) (hD : D ≤ 17) (hs : Len s.size) : Pure Tryz.prog 137 [.v (.string s), iv D] (.tu [iv ((numR D s.data.toList).getD 0), .v (.bool (numR D s.data.toList).isSome)]) := by
  unfold Len at hs
  have hN := numR_eq D s
  have hb0 := byteAt_b s 0
  refine p_intro evOk [] Tryz.func137 rfl Tryz.call137 ?_
  by_cases h45 : byteAt s 0 = 45
  · have ha : atN s = 1 := by unfold atN; rw [if_pos h45]
    have e45 : ((byteAt s 0 : Int) == 45) = true := by rw [h45]; rfl
    have hpos : 0 < s.size := byte_room (by omega)
    rw [ha] at hN
    by_cases hc : s.size = 1 ∨ D < s.size - 1 ∨ (byteAt s 1 = 48 ∧ 1 < s.size)
    · rw [if_pos hc] at hN
      rw [hN]
      repeat' first
       | refine v_seq ?_ | refine v_block ?_ | refine v_ret ?_ | refine v_skip ?_ | (refine v_exit ?_; repeat' first | refine xB_eq ?_ | refine xB_ne rfl ?_)
       | ((first | refine rgA fun K hK => ?_ | refine rgB rfl fun K hK => ?_ | refine rgC rfl fun K hK => ?_); simp only [go_sem,simprocAttr,e45])
       | (simp (disch := first | omega | rfl | (simp only [lnn]; omega)) only [spl])
       | (refine hK _ ?_; clear hK K)
       | (refine gdB_intro (fun h => ?_) (fun h => ?_) <;> simp only [go_sem,simprocAttr,h,e45] <;> (have h' := h; try simp only [bl] at h'))
       | (refine v_cond rfl (fun h => ?_) (fun h => ?_) <;> first | (exact Bool.noConfusion h) | (have h' := h; try simp only [bl] at h'))
       | (refine r_ret ?_; simp only [resL, resA, Tryz.f137, lk_cons', lk_nil', Nat.reduceBEq]; first | exact ⟨rfl, Sb.nil _, rfl⟩ | refine ⟨rfl, sbt ?_, rfl⟩ | refine ⟨rfl, Sb.of_eq ?_, rfl⟩)
       | (refine And.intro (by first | exact True.intro | omega | rfl | exact Nat.le_of_ble_eq_true rfl | (simp only [lnn]; omega) | exact List.forall_mem_nil _ | (refine List.forall_mem_cons.2 ⟨⟨_, rfl⟩, ?_⟩; repeat' first | exact List.forall_mem_nil _ | refine List.forall_mem_cons.2 ⟨⟨_, rfl⟩, ?_⟩)) ?_)
       | fail
      all_goals first | rfl | (exfalso; omega)
    · rw [if_neg hc] at hN
      rw [not_or, not_or] at hc
      obtain ⟨c1, c2, c3⟩ := hc
      repeat' first
       | refine v_seq ?_ | refine v_block ?_ | refine v_ret ?_ | refine v_skip ?_ | (refine v_exit ?_; repeat' first | refine xB_eq ?_ | refine xB_ne rfl ?_)
       | ((first | refine rgA fun K hK => ?_ | refine rgB rfl fun K hK => ?_ | refine rgC rfl fun K hK => ?_); simp only [go_sem,simprocAttr,e45])
       | (simp (disch := first | omega | rfl | (simp only [lnn]; omega)) only [spl])
       | (refine hK _ ?_; clear hK K)
       | (refine gdB_intro (fun h => ?_) (fun h => ?_) <;> simp only [go_sem,simprocAttr,h,e45] <;> (have h' := h; try simp only [bl] at h'))
       | (refine v_cond rfl (fun h => ?_) (fun h => ?_) <;> first | (exact Bool.noConfusion h) | (have h' := h; try simp only [bl] at h'))
       | (refine r_ret ?_; simp only [resL, resA, Tryz.f137, lk_cons', lk_nil', Nat.reduceBEq]; first | exact ⟨rfl, Sb.nil _, rfl⟩ | refine ⟨rfl, sbt ?_, rfl⟩ | refine ⟨rfl, Sb.of_eq ?_, rfl⟩)
       | (refine And.intro (by first | exact True.intro | omega | rfl | exact Nat.le_of_ble_eq_true rfl | (simp only [lnn]; omega) | exact List.forall_mem_nil _ | (refine List.forall_mem_cons.2 ⟨⟨_, rfl⟩, ?_⟩; repeat' first | exact List.forall_mem_nil _ | refine List.forall_mem_cons.2 ⟨⟨_, rfl⟩, ?_⟩)) ?_)
       | fail
      all_goals try (exfalso; omega)
      all_goals
        refine v_loop (T := Nat × Nat) (fun x => ⟨[(0, .v (.string s)), (1, iv D), (6, iv 1), (7, iv x.2), (8, iv x.1)], emp, 0, (70, 0, 0)⟩) (fun x => x.1 ≤ s.size ∧ 1 ≤ x.1 ∧ x.2 < 10 ^ (x.1 - 1) ∧ Lib.decFrom x.2 (s.data.toList.drop x.1) = Lib.decFrom 0 (s.data.toList.drop 1)) (fun x => s.size - x.1) (1, 0) ⟨by omega, by omega, by decide, rfl⟩ (by (refine ent_eq ?_ rfl rfl rfl; repeat' first | exact trivial | refine ⟨?_, ?_⟩ | rfl)) ?_
        rintro ⟨i, n⟩ ⟨hi, hi1, hn, hdc⟩
        simp only at hi hi1 hn hdc
        have hp : (10 : Nat) ^ (i - 1) ≤ 10 ^ 17 := Nat.pow_le_pow_right (by decide) (by omega)
        by_cases hi2 : i < s.size
        · have hd : decide ((i : Int) < s.size) = true := decide_eq_true (by omega)
          have hb := byteAt_b s i
          have hti : ((i : Nat) : Int).toNat = i := Int.toNat_natCast i
          rw [dec_step hi2] at hdc
          by_cases hdg : 48 ≤ byteAt s i ∧ byteAt s i ≤ 57
          · rw [if_pos hdg] at hdc
            have q1 : decide ((byteAt s i : Int) < 48) = false := decide_eq_false (by omega)
            have q2 : decide (57 < (byteAt s i : Int)) = false := decide_eq_false (by omega)
            have hpw : (10 : Nat) ^ (i + 1 - 1) = 10 ^ (i - 1) * 10 := by rw [show i + 1 - 1 = (i - 1) + 1 by omega, Nat.pow_succ]
            have hn2 : n * 10 + (byteAt s i - 48) < 10 ^ (i + 1 - 1) := by rw [hpw]; omega
            have hn3 : n ≤ 100000000000000000 := by omega
            have hu := byte_sub hdg
            have hv : 10 * (n : Int) + ((byteAt s i - 48 : Nat) : Int) = ((n * 10 + (byteAt s i - 48) : Nat) : Int) := by omega
            repeat' first
             | refine v_seq ?_ | refine v_block ?_ | refine v_ret ?_ | refine v_skip ?_ | (refine v_exit ?_; repeat' first | refine xB_eq ?_ | refine xB_ne rfl ?_)
             | ((first | refine rgA fun K hK => ?_ | refine rgB rfl fun K hK => ?_ | refine rgC rfl fun K hK => ?_); simp only [go_sem,simprocAttr,hd,hti,q1,q2,hu,hv])
             | (simp (disch := first | omega | rfl | (simp only [lnn]; omega)) only [spl])
             | (refine hK _ ?_; clear hK K)
             | (refine gdB_intro (fun h => ?_) (fun h => ?_) <;> simp only [go_sem,simprocAttr,h,hd,hti,q1,q2,hu,hv] <;> (have h' := h; try simp only [bl] at h'))
             | (refine v_cond rfl (fun h => ?_) (fun h => ?_) <;> first | (exact Bool.noConfusion h) | (have h' := h; try simp only [bl] at h'))
             | (refine r_ret ?_; simp only [resL, resA, Tryz.f137, lk_cons', lk_nil', Nat.reduceBEq]; first | exact ⟨rfl, Sb.nil _, rfl⟩ | refine ⟨rfl, sbt ?_, rfl⟩ | refine ⟨rfl, Sb.of_eq ?_, rfl⟩)
             | (refine And.intro (by first | exact True.intro | omega | rfl | exact Nat.le_of_ble_eq_true rfl | (simp only [lnn]; omega) | exact List.forall_mem_nil _ | (refine List.forall_mem_cons.2 ⟨⟨_, rfl⟩, ?_⟩; repeat' first | exact List.forall_mem_nil _ | refine List.forall_mem_cons.2 ⟨⟨_, rfl⟩, ?_⟩)) ?_)
             | fail
            all_goals try (exfalso; omega)
            exact ⟨(i + 1, n * 10 + (byteAt s i - 48)), by (refine ent_eq ?_ rfl rfl rfl; repeat' first | exact trivial | refine ⟨?_, ?_⟩ | rfl), ⟨by simp only; omega, by simp only; omega, hn2, hdc⟩, by simp only; omega⟩
          · rw [if_neg hdg] at hdc
            rw [← hdc] at hN
            rw [hN]
            repeat' first
             | refine v_seq ?_ | refine v_block ?_ | refine v_ret ?_ | refine v_skip ?_ | (refine v_exit ?_; repeat' first | refine xB_eq ?_ | refine xB_ne rfl ?_)
             | ((first | refine rgA fun K hK => ?_ | refine rgB rfl fun K hK => ?_ | refine rgC rfl fun K hK => ?_); simp only [go_sem,simprocAttr,hd,hti])
             | (simp (disch := first | omega | rfl | (simp only [lnn]; omega)) only [spl])
             | (refine hK _ ?_; clear hK K)
             | (refine gdB_intro (fun h => ?_) (fun h => ?_) <;> simp only [go_sem,simprocAttr,h,hd,hti] <;> (have h' := h; try simp only [bl] at h'))
             | (refine v_cond rfl (fun h => ?_) (fun h => ?_) <;> first | (exact Bool.noConfusion h) | (have h' := h; try simp only [bl] at h'))
             | (refine r_ret ?_; simp only [resL, resA, Tryz.f137, lk_cons', lk_nil', Nat.reduceBEq]; first | exact ⟨rfl, Sb.nil _, rfl⟩ | refine ⟨rfl, sbt ?_, rfl⟩ | refine ⟨rfl, Sb.of_eq ?_, rfl⟩)
             | (refine And.intro (by first | exact True.intro | omega | rfl | exact Nat.le_of_ble_eq_true rfl | (simp only [lnn]; omega) | exact List.forall_mem_nil _ | (refine List.forall_mem_cons.2 ⟨⟨_, rfl⟩, ?_⟩; repeat' first | exact List.forall_mem_nil _ | refine List.forall_mem_cons.2 ⟨⟨_, rfl⟩, ?_⟩)) ?_)
             | fail
            all_goals first | rfl | (exfalso; omega)
        · obtain rfl : i = s.size := by omega
          have hd : decide ((s.size : Int) < s.size) = false := decide_eq_false (by omega)
          rw [dec_end] at hdc
          rw [← hdc] at hN
          rw [hN]
          have hn3 : n ≤ 100000000000000000 := by omega
          repeat' first
           | refine v_seq ?_ | refine v_block ?_ | refine v_ret ?_ | refine v_skip ?_ | (refine v_exit ?_; repeat' first | refine xB_eq ?_ | refine xB_ne rfl ?_)
           | ((first | refine rgA fun K hK => ?_ | refine rgB rfl fun K hK => ?_ | refine rgC rfl fun K hK => ?_); simp only [go_sem,simprocAttr,hd])
           | (simp (disch := first | omega | rfl | (simp only [lnn]; omega)) only [spl])
           | (refine hK _ ?_; clear hK K)
           | (refine gdB_intro (fun h => ?_) (fun h => ?_) <;> simp only [go_sem,simprocAttr,h,hd] <;> (have h' := h; try simp only [bl] at h'))
           | (refine v_cond rfl (fun h => ?_) (fun h => ?_) <;> first | (exact Bool.noConfusion h) | (have h' := h; try simp only [bl] at h'))
           | (refine r_ret ?_; simp only [resL, resA, Tryz.f137, lk_cons', lk_nil', Nat.reduceBEq]; first | exact ⟨rfl, Sb.nil _, rfl⟩ | refine ⟨rfl, sbt ?_, rfl⟩ | refine ⟨rfl, Sb.of_eq ?_, rfl⟩)
           | (refine And.intro (by first | exact True.intro | omega | rfl | exact Nat.le_of_ble_eq_true rfl | (simp only [lnn]; omega) | exact List.forall_mem_nil _ | (refine List.forall_mem_cons.2 ⟨⟨_, rfl⟩, ?_⟩; repeat' first | exact List.forall_mem_nil _ | refine List.forall_mem_cons.2 ⟨⟨_, rfl⟩, ?_⟩)) ?_)
           | fail
          all_goals first | rfl | (exfalso; omega) | (simp; done) | trace_state
  · have ha : atN s = 0 := by unfold atN; rw [if_neg h45]
    have e45 : ((byteAt s 0 : Int) == 45) = false := beq_false_of_ne (by omega)
    rw [ha] at hN
    by_cases hc : s.size = 0 ∨ D < s.size - 0 ∨ (byteAt s 0 = 48 ∧ 1 < s.size)
    · rw [if_pos hc] at hN
      rw [hN]
      repeat' first
       | refine v_seq ?_ | refine v_block ?_ | refine v_ret ?_ | refine v_skip ?_ | (refine v_exit ?_; repeat' first | refine xB_eq ?_ | refine xB_ne rfl ?_)
       | ((first | refine rgA fun K hK => ?_ | refine rgB rfl fun K hK => ?_ | refine rgC rfl fun K hK => ?_); simp only [go_sem,simprocAttr,e45])
       | (simp (disch := first | omega | rfl | (simp only [lnn]; omega)) only [spl])
       | (refine hK _ ?_; clear hK K)
       | (refine gdB_intro (fun h => ?_) (fun h => ?_) <;> simp only [go_sem,simprocAttr,h,e45] <;> (have h' := h; try simp only [bl] at h'))
       | (refine v_cond rfl (fun h => ?_) (fun h => ?_) <;> first | (exact Bool.noConfusion h) | (have h' := h; try simp only [bl] at h'))
       | (refine r_ret ?_; simp only [resL, resA, Tryz.f137, lk_cons', lk_nil', Nat.reduceBEq]; first | exact ⟨rfl, Sb.nil _, rfl⟩ | refine ⟨rfl, sbt ?_, rfl⟩ | refine ⟨rfl, Sb.of_eq ?_, rfl⟩)
       | (refine And.intro (by first | exact True.intro | omega | rfl | exact Nat.le_of_ble_eq_true rfl | (simp only [lnn]; omega) | exact List.forall_mem_nil _ | (refine List.forall_mem_cons.2 ⟨⟨_, rfl⟩, ?_⟩; repeat' first | exact List.forall_mem_nil _ | refine List.forall_mem_cons.2 ⟨⟨_, rfl⟩, ?_⟩)) ?_)
       | fail
      all_goals first | rfl | (exfalso; omega)
    · rw [if_neg hc] at hN
      rw [not_or, not_or] at hc
      obtain ⟨c1, c2, c3⟩ := hc
      repeat' first
       | refine v_seq ?_ | refine v_block ?_ | refine v_ret ?_ | refine v_skip ?_ | (refine v_exit ?_; repeat' first | refine xB_eq ?_ | refine xB_ne rfl ?_)
       | ((first | refine rgA fun K hK => ?_ | refine rgB rfl fun K hK => ?_ | refine rgC rfl fun K hK => ?_); simp only [go_sem,simprocAttr,e45])
       | (simp (disch := first | omega | rfl | (simp only [lnn]; omega)) only [spl])
       | (refine hK _ ?_; clear hK K)
       | (refine gdB_intro (fun h => ?_) (fun h => ?_) <;> simp only [go_sem,simprocAttr,h,e45] <;> (have h' := h; try simp only [bl] at h'))
       | (refine v_cond rfl (fun h => ?_) (fun h => ?_) <;> first | (exact Bool.noConfusion h) | (have h' := h; try simp only [bl] at h'))
       | (refine r_ret ?_; simp only [resL, resA, Tryz.f137, lk_cons', lk_nil', Nat.reduceBEq]; first | exact ⟨rfl, Sb.nil _, rfl⟩ | refine ⟨rfl, sbt ?_, rfl⟩ | refine ⟨rfl, Sb.of_eq ?_, rfl⟩)
       | (refine And.intro (by first | exact True.intro | omega | rfl | exact Nat.le_of_ble_eq_true rfl | (simp only [lnn]; omega) | exact List.forall_mem_nil _ | (refine List.forall_mem_cons.2 ⟨⟨_, rfl⟩, ?_⟩; repeat' first | exact List.forall_mem_nil _ | refine List.forall_mem_cons.2 ⟨⟨_, rfl⟩, ?_⟩)) ?_)
       | fail
      all_goals try (exfalso; omega)
      all_goals
        refine v_loop (T := Nat × Nat) (fun x => ⟨[(0, .v (.string s)), (1, iv D), (6, iv 0), (7, iv x.2), (8, iv x.1)], emp, 0, (70, 0, 0)⟩) (fun x => x.1 ≤ s.size ∧ 0 ≤ x.1 ∧ x.2 < 10 ^ (x.1 - 0) ∧ Lib.decFrom x.2 (s.data.toList.drop x.1) = Lib.decFrom 0 (s.data.toList.drop 0)) (fun x => s.size - x.1) (0, 0) ⟨by omega, by omega, by decide, rfl⟩ (by (refine ent_eq ?_ rfl rfl rfl; repeat' first | exact trivial | refine ⟨?_, ?_⟩ | rfl)) ?_
        rintro ⟨i, n⟩ ⟨hi, hi1, hn, hdc⟩
        simp only at hi hi1 hn hdc
        have hp : (10 : Nat) ^ (i - 0) ≤ 10 ^ 17 := Nat.pow_le_pow_right (by decide) (by omega)
        by_cases hi2 : i < s.size
        · have hd : decide ((i : Int) < s.size) = true := decide_eq_true (by omega)
          have hb := byteAt_b s i
          have hti : ((i : Nat) : Int).toNat = i := Int.toNat_natCast i
          rw [dec_step hi2] at hdc
          by_cases hdg : 48 ≤ byteAt s i ∧ byteAt s i ≤ 57
          · rw [if_pos hdg] at hdc
            have q1 : decide ((byteAt s i : Int) < 48) = false := decide_eq_false (by omega)
            have q2 : decide (57 < (byteAt s i : Int)) = false := decide_eq_false (by omega)
            have hpw : (10 : Nat) ^ (i + 1 - 0) = 10 ^ (i - 0) * 10 := by rw [show i + 1 - 0 = (i - 0) + 1 by omega, Nat.pow_succ]
            have hn2 : n * 10 + (byteAt s i - 48) < 10 ^ (i + 1 - 0) := by rw [hpw]; omega
            have hn3 : n ≤ 100000000000000000 := by omega
            have hu := byte_sub hdg
            have hv : 10 * (n : Int) + ((byteAt s i - 48 : Nat) : Int) = ((n * 10 + (byteAt s i - 48) : Nat) : Int) := by omega
            repeat' first
             | refine v_seq ?_ | refine v_block ?_ | refine v_ret ?_ | refine v_skip ?_ | (refine v_exit ?_; repeat' first | refine xB_eq ?_ | refine xB_ne rfl ?_)
             | ((first | refine rgA fun K hK => ?_ | refine rgB rfl fun K hK => ?_ | refine rgC rfl fun K hK => ?_); simp only [go_sem,simprocAttr,hd,hti,q1,q2,hu,hv])
             | (simp (disch := first | omega | rfl | (simp only [lnn]; omega)) only [spl])
             | (refine hK _ ?_; clear hK K)
             | (refine gdB_intro (fun h => ?_) (fun h => ?_) <;> simp only [go_sem,simprocAttr,h,hd,hti,q1,q2,hu,hv] <;> (have h' := h; try simp only [bl] at h'))
             | (refine v_cond rfl (fun h => ?_) (fun h => ?_) <;> first | (exact Bool.noConfusion h) | (have h' := h; try simp only [bl] at h'))
             | (refine r_ret ?_; simp only [resL, resA, Tryz.f137, lk_cons', lk_nil', Nat.reduceBEq]; first | exact ⟨rfl, Sb.nil _, rfl⟩ | refine ⟨rfl, sbt ?_, rfl⟩ | refine ⟨rfl, Sb.of_eq ?_, rfl⟩)
             | (refine And.intro (by first | exact True.intro | omega | rfl | exact Nat.le_of_ble_eq_true rfl | (simp only [lnn]; omega) | exact List.forall_mem_nil _ | (refine List.forall_mem_cons.2 ⟨⟨_, rfl⟩, ?_⟩; repeat' first | exact List.forall_mem_nil _ | refine List.forall_mem_cons.2 ⟨⟨_, rfl⟩, ?_⟩)) ?_)
             | fail
            all_goals try (exfalso; omega)
            exact ⟨(i + 1, n * 10 + (byteAt s i - 48)), by (refine ent_eq ?_ rfl rfl rfl; repeat' first | exact trivial | refine ⟨?_, ?_⟩ | rfl), ⟨by simp only; omega, by simp only; omega, hn2, hdc⟩, by simp only; omega⟩
          · rw [if_neg hdg] at hdc
            rw [← hdc] at hN
            rw [hN]
            repeat' first
             | refine v_seq ?_ | refine v_block ?_ | refine v_ret ?_ | refine v_skip ?_ | (refine v_exit ?_; repeat' first | refine xB_eq ?_ | refine xB_ne rfl ?_)
             | ((first | refine rgA fun K hK => ?_ | refine rgB rfl fun K hK => ?_ | refine rgC rfl fun K hK => ?_); simp only [go_sem,simprocAttr,hd,hti])
             | (simp (disch := first | omega | rfl | (simp only [lnn]; omega)) only [spl])
             | (refine hK _ ?_; clear hK K)
             | (refine gdB_intro (fun h => ?_) (fun h => ?_) <;> simp only [go_sem,simprocAttr,h,hd,hti] <;> (have h' := h; try simp only [bl] at h'))
             | (refine v_cond rfl (fun h => ?_) (fun h => ?_) <;> first | (exact Bool.noConfusion h) | (have h' := h; try simp only [bl] at h'))
             | (refine r_ret ?_; simp only [resL, resA, Tryz.f137, lk_cons', lk_nil', Nat.reduceBEq]; first | exact ⟨rfl, Sb.nil _, rfl⟩ | refine ⟨rfl, sbt ?_, rfl⟩ | refine ⟨rfl, Sb.of_eq ?_, rfl⟩)
             | (refine And.intro (by first | exact True.intro | omega | rfl | exact Nat.le_of_ble_eq_true rfl | (simp only [lnn]; omega) | exact List.forall_mem_nil _ | (refine List.forall_mem_cons.2 ⟨⟨_, rfl⟩, ?_⟩; repeat' first | exact List.forall_mem_nil _ | refine List.forall_mem_cons.2 ⟨⟨_, rfl⟩, ?_⟩)) ?_)
             | fail
            all_goals first | rfl | (exfalso; omega)
        · obtain rfl : i = s.size := by omega
          have hd : decide ((s.size : Int) < s.size) = false := decide_eq_false (by omega)
          rw [dec_end] at hdc
          rw [← hdc] at hN
          rw [hN]
          have hn3 : n ≤ 100000000000000000 := by omega
          repeat' first
           | refine v_seq ?_ | refine v_block ?_ | refine v_ret ?_ | refine v_skip ?_ | (refine v_exit ?_; repeat' first | refine xB_eq ?_ | refine xB_ne rfl ?_)
           | ((first | refine rgA fun K hK => ?_ | refine rgB rfl fun K hK => ?_ | refine rgC rfl fun K hK => ?_); simp only [go_sem,simprocAttr,hd])
           | (simp (disch := first | omega | rfl | (simp only [lnn]; omega)) only [spl])
           | (refine hK _ ?_; clear hK K)
           | (refine gdB_intro (fun h => ?_) (fun h => ?_) <;> simp only [go_sem,simprocAttr,h,hd] <;> (have h' := h; try simp only [bl] at h'))
           | (refine v_cond rfl (fun h => ?_) (fun h => ?_) <;> first | (exact Bool.noConfusion h) | (have h' := h; try simp only [bl] at h'))
           | (refine r_ret ?_; simp only [resL, resA, Tryz.f137, lk_cons', lk_nil', Nat.reduceBEq]; first | exact ⟨rfl, Sb.nil _, rfl⟩ | refine ⟨rfl, sbt ?_, rfl⟩ | refine ⟨rfl, Sb.of_eq ?_, rfl⟩)
           | (refine And.intro (by first | exact True.intro | omega | rfl | exact Nat.le_of_ble_eq_true rfl | (simp only [lnn]; omega) | exact List.forall_mem_nil _ | (refine List.forall_mem_cons.2 ⟨⟨_, rfl⟩, ?_⟩; repeat' first | exact List.forall_mem_nil _ | refine List.forall_mem_cons.2 ⟨⟨_, rfl⟩, ?_⟩)) ?_)
           | fail
          all_goals first | rfl | (exfalso; omega) | (simp; done) | trace_state
end Go.Proofs.YtabmhfmglhjmjaaGreatDoor

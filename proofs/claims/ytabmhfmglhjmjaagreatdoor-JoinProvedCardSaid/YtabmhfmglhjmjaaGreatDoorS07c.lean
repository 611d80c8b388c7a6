import Derived.Test.YtabmhfmglhjmjaaGreatDoorS07b
import Derived.WideShapes
set_option linter.unusedVariables false
set_option linter.unusedSimpArgs false
set_option linter.unusedSectionVars false
namespace Go.Proofs.YtabmhfmglhjmjaaGreatDoor
open Go.Ab
attribute [local instance] drS
theorem bytesLess_lt : ∀ (x y : List UInt8), Op.bytesLess x y = decide (x < y)
  | [], [] => by simp [Op.bytesLess]
  | _ :: _, [] => by simp [Op.bytesLess]
  | [], _ :: _ => by simp [Op.bytesLess]
  | a :: x, b :: y => by
    rw [Op.bytesLess, bytesLess_lt x y]
    simp only [List.cons_lt_cons_iff]
    by_cases h1 : a < b <;> by_cases h2 : a = b <;> by_cases h3 : x < y <;> simp [h1, h2, h3]
def nmEq (a b : ByteArray) : Bool := a.toList == b.toList
def nmLt (a b : ByteArray) : Bool := Op.bytesLess a.toList b.toList
theorem nmEq_iff {a b : ByteArray} : nmEq a b = true ↔ a = b := by
  unfold nmEq
  rw [beq_iff_eq, ByteArray.toList_eq, ByteArray.toList_eq]
  exact ⟨WideShapes.bytes_inj, fun h => by rw [h]⟩
theorem nmEq_false {a b : ByteArray} : nmEq a b = false ↔ a ≠ b := by
  rw [← Bool.not_eq_true, nmEq_iff]
theorem nmLt_iff {a b : ByteArray} : nmLt a b = true ↔ a.data.toList < b.data.toList := by
  unfold nmLt
  rw [bytesLess_lt, decide_eq_true_eq, ByteArray.toList_eq, ByteArray.toList_eq]
theorem nmLt_false {a b : ByteArray} : nmLt a b = false ↔ ¬ a.data.toList < b.data.toList := by
  rw [← Bool.not_eq_true, nmLt_iff]
theorem nmLt_irrefl (a : ByteArray) : nmLt a a = false := nmLt_false.2 (List.lt_irrefl _)
theorem nmLt_trans {a b c : ByteArray} (h : nmLt a b = true) (k : nmLt b c = true) : nmLt a c = true := nmLt_iff.2 (List.lt_trans (nmLt_iff.1 h) (nmLt_iff.1 k))
theorem nmLt_asymm {a b : ByteArray} (h : nmLt a b = true) : nmLt b a = false := nmLt_false.2 (List.lt_asymm (nmLt_iff.1 h))
theorem nmLt_tri {a b : ByteArray} (h : nmLt a b = false) (k : nmLt b a = false) : a = b := by
  have h1 := List.not_lt.1 (nmLt_false.1 h)
  have h2 := List.not_lt.1 (nmLt_false.1 k)
  exact WideShapes.bytes_inj (List.le_antisymm h2 h1)
theorem nmLt_ntrans {a b c : ByteArray} (h : nmLt a b = false) (k : nmLt b c = false) : nmLt a c = false :=
  nmLt_false.2 (List.not_lt.2 (List.le_trans (List.not_lt.1 (nmLt_false.1 k)) (List.not_lt.1 (nmLt_false.1 h))))
def letterB (c : Int) : Bool := (decide (97 ≤ c) && decide (c ≤ 122)) || (decide (65 ≤ c) && decide (c ≤ 90))
def badCh (i : Int) (c : Int) : Bool := !letterB c && (i == 0 || (c != 45 && (decide (c < 48) || decide (57 < c))))
def isName (s : ByteArray) : Bool := !(decide ((s.size : Int) < 1) || decide (12 < (s.size : Int))) && (List.range s.size).all fun i => !badCh i (byteAt s i)
def idxP (p : Nat → Bool) (n : Nat) : Int := match (List.range n).find? p with
  | some i => (i : Int)
  | none => -1
theorem idxP_at {p : Nat → Bool} {n i : Nat} (hi : i < n) (hp : p i = true) (h : ∀ j, j < i → p j = false) : idxP p n = i := by
  unfold idxP; rw [range_find hi hp h]
theorem idxP_none {p : Nat → Bool} {n : Nat} (h : ∀ j, j < n → p j = false) : idxP p n = -1 := by
  unfold idxP; rw [range_findNone h]
theorem idxP_inv {p : Nat → Bool} {n : Nat} : (idxP p n = -1 ∧ ∀ j, j < n → p j = false) ∨ ∃ i : Nat, idxP p n = i ∧ i < n ∧ p i = true ∧ ∀ j, j < i → p j = false := by
  have key : ∀ m : Nat, m ≤ n → (∀ j, j < m → p j = false) ∨ ∃ i : Nat, i < m ∧ p i = true ∧ ∀ j, j < i → p j = false := fun m => by
    induction m with
    | zero => intro _; exact .inl fun j hj => by omega
    | succ m ih =>
      intro hm
      rcases ih (by omega) with h | ⟨i, hi, h1, h2⟩
      · cases hp : p m
        · exact .inl fun j hj => by
            by_cases e : j = m
            · subst e; exact hp
            · exact h j (by omega)
        · exact .inr ⟨m, by omega, hp, h⟩
      · exact .inr ⟨i, by omega, h1, h2⟩
  rcases key n (Nat.le_refl _) with h | ⟨i, hi, h1, h2⟩
  · exact .inl ⟨idxP_none h, h⟩
  · exact .inr ⟨i, idxP_at hi h1 h2, hi, h1, h2⟩
structure Tf where
  nm : ByteArray
  lag : Int
  xs : List Int
def Tf.cells (t : Tf) : List AV := [.v (.string t.nm), iv t.lag, isl t.xs]
def tcs (ts : List Tf) : List AV := ts.flatMap Tf.cells
abbrev tsl (ts : List Tf) : AV := .sl 3 ts.length (tcs ts)
def gt7 (ts : List Tf) (i : Nat) : Tf := ts.getD i ⟨ByteArray.empty, 0, []⟩
theorem gt7_eq {ts : List Tf} {i : Nat} (h : i < ts.length) : gt7 ts i = ts[i] := by simp [gt7, h]
theorem gt7_out {ts : List Tf} {i : Nat} (h : ts.length ≤ i) : gt7 ts i = ⟨ByteArray.empty, 0, []⟩ := by
  unfold gt7; rw [List.getD_eq_getElem?_getD, List.getElem?_eq_none h]; rfl
theorem tcs_len (ts : List Tf) : (tcs ts).length = ts.length * 3 := fm_len (c := Tf.cells) (fun _ => rfl) ts
theorem tcs_at {ts : List Tf} {i : Nat} (h : i < ts.length) : ((tcs ts).drop (i * 3)).take 3 = [.v (.string (gt7 ts i).nm), iv (gt7 ts i).lag, isl (gt7 ts i).xs] := by
  rw [gt7_eq h]; exact fm_at (c := Tf.cells) (fun _ => rfl) h
theorem tcs_0 {ts : List Tf} {i : Nat} (h : i < ts.length) : (tcs ts)[i * 3]? = some (.v (.string (gt7 ts i).nm)) := by
  rw [gt7_eq h]; exact fm_get (c := Tf.cells) (k := 3) (fun _ => rfl) h (j := 0) (by omega)
theorem tcs_1 {ts : List Tf} {i : Nat} (h : i < ts.length) : (tcs ts)[i * 3 + 1]? = some (iv (gt7 ts i).lag) := by
  rw [gt7_eq h]; exact fm_get (c := Tf.cells) (k := 3) (fun _ => rfl) h (j := 1) (by omega)
theorem tcs_2 {ts : List Tf} {i : Nat} (h : i < ts.length) : (tcs ts)[i * 3 + 2]? = some (isl (gt7 ts i).xs) := by
  rw [gt7_eq h]; exact fm_get (c := Tf.cells) (k := 3) (fun _ => rfl) h (j := 2) (by omega)
theorem tcs_take {ts : List Tf} {i : Nat} : (tcs ts).take (i * 3) = tcs (ts.take i) := by
  unfold tcs
  induction ts generalizing i with
  | nil => simp
  | cons t ts ih =>
    cases i with
    | zero => simp
    | succ i =>
      rw [List.take_succ_cons, List.flatMap_cons, List.flatMap_cons, ← ih, Nat.succ_mul, Nat.add_comm (i * 3) 3, List.take_add, List.take_left' (l₁ := t.cells) (i := 3) rfl, List.drop_left' (l₁ := t.cells) (i := 3) rfl]
theorem tcs_plain : ∀ ts : List Tf, plainL (tcs ts) = true
  | [] => rfl
  | t :: ts => by
    have h := tcs_plain ts
    unfold tcs at h ⊢
    rw [List.flatMap_cons]
    simp only [Tf.cells, List.cons_append, List.nil_append, plainL, AV.plain, isl, iv, ints_plain, h, Bool.and_self]
def hasAt (t : Tf) (p : Int) : Bool := within (p + t.lag) 0 ((t.xs.length : Int) - 1)
def smp (t : Tf) (p : Int) : Int := gi t.xs (p + t.lag)
def colTo (ts : List Tf) (p : Int) : Nat → List Int
  | 0 => []
  | n + 1 => bif hasAt (gt7 ts n) p then colTo ts p n ++ [smp (gt7 ts n) p] else colTo ts p n
def col (ts : List Tf) (p : Int) : List Int := colTo ts p ts.length
theorem colTo_len (ts : List Tf) (p : Int) : ∀ n, (colTo ts p n).length ≤ n
  | 0 => by simp [colTo]
  | n + 1 => by
    have := colTo_len ts p n
    rw [colTo]
    cases hasAt (gt7 ts n) p
    · rw [cond_false]; omega
    · rw [cond_true, List.length_append, List.length_singleton]; omega
theorem colTo_eq (ts : List Tf) (p : Int) : ∀ n, n ≤ ts.length → colTo ts p n = ((ts.take n).filter fun t => hasAt t p).map fun t => smp t p
  | 0, _ => by simp [colTo]
  | n + 1, h => by
    rw [colTo, colTo_eq ts p n (by omega), List.take_succ_eq_append_getElem (by omega), List.filter_append, List.map_append, gt7_eq (by omega)]
    cases hc : hasAt ts[n] p <;> simp [hc]
theorem col_eq (ts : List Tf) (p : Int) : col ts p = (ts.filter fun t => hasAt t p).map fun t => smp t p := by
  rw [col, colTo_eq ts p _ (Nat.le_refl _), List.take_length]
def mid (xs : List Int) : Int := (gi (sorted xs) (((xs.length : Int) - 1) / 2) + gi (sorted xs) ((xs.length : Int) / 2)) / 2
def medAt (ts : List Tf) (p : Int) : Int := mid (col ts p)
def meds (ts : List Tf) (n : Nat) : List Int := (List.range n).map fun p => medAt ts (p : Nat)
theorem meds_len (ts : List Tf) (n : Nat) : (meds ts n).length = n := by simp [meds]
theorem meds_succ (ts : List Tf) (n : Nat) : meds ts n ++ [medAt ts (n : Nat)] = meds ts (n + 1) := by simp [meds, List.range_succ]
theorem gi_meds {ts : List Tf} {n p : Nat} (h : p < n) : gi (meds ts n) (p : Nat) = medAt ts (p : Nat) := by simp [gi, meds, h]
def hole (ts : List Tf) (p : Nat) : Bool := (col ts (p : Nat)).length == 0
def holes (ts : List Tf) (n : Nat) : Bool := (List.range n).any (hole ts)
theorem holes_false {ts : List Tf} {n : Nat} : holes ts n = false ↔ ∀ p, p < n → hole ts p = false := by simp [holes]
theorem holes_at {ts : List Tf} {n p : Nat} (h : p < n) (hp : hole ts p = true) : holes ts n = true := by
  unfold holes; rw [List.any_eq_true]; exact ⟨p, List.mem_range.2 h, hp⟩
def tfE (ts : List Tf) (i : Nat) : Int := firstE [unlessE (isName (gt7 ts i).nm) 4, unlessE (decide (idxP (fun j => nmEq (gt7 ts j).nm (gt7 ts i).nm) i < 0)) 5, unlessE (within (gt7 ts i).lag (-100) 100) 2, signalErr (gt7 ts i).xs]
def ckT (ts : List Tf) : Int × Int := bif (ts.length : Int) == 0 then (0, 10) else bif decide (6 < (ts.length : Int)) then (0, 8) else fb7 (tfE ts) ts.length
def lengthE (n : Int) : Int := bif within n 1 200 then 0 else 2
structure TfOk (ts : List Tf) : Prop where
  n1 : 1 ≤ ts.length
  n6 : ts.length ≤ 6
  name : ∀ i, i < ts.length → isName (gt7 ts i).nm = true
  uniq : ∀ i j, j < i → i < ts.length → (gt7 ts j).nm ≠ (gt7 ts i).nm
  lag : ∀ i, i < ts.length → -100 ≤ (gt7 ts i).lag ∧ (gt7 ts i).lag ≤ 100
  len : ∀ i, i < ts.length → (gt7 ts i).xs.length ≤ 200
  smp : ∀ i, i < ts.length → areSamples (gt7 ts i).xs = true
theorem firstE_zero : ∀ {es : List Int}, firstE es = 0 → ∀ e ∈ es, e = 0
  | [], _ => fun e he => by simp at he
  | x :: es, h => by
    unfold firstE at h
    cases hx : x != 0 <;> rw [hx] at h
    · rw [cond_false] at h
      intro e he
      rcases List.mem_cons.1 he with rfl | he
      · simpa using hx
      · exact firstE_zero h e he
    · rw [cond_true] at h; simp [h] at hx
theorem unlessE_zero {b : Bool} {e : Int} (he : e ≠ 0) (h : unlessE b e = 0) : b = true := by
  cases b
  · exact absurd h he
  · rfl
theorem ckT_zero {ts : List Tf} (h : (ckT ts).2 = 0) : TfOk ts ∧ (ckT ts).1 = 0 := by
  unfold ckT at h ⊢
  cases h1 : (ts.length : Int) == 0 <;> rw [h1] at h
  · cases h2 : decide (6 < (ts.length : Int)) <;> rw [h2] at h
    · rw [cond_false, cond_false] at h ⊢
      have h1' : (ts.length : Int) ≠ 0 := by simpa using h1
      have h2' := of_decide_eq_false h2
      have hz := fb7_none _ h
      have hf := fun i hi => firstE_zero (hz i hi)
      refine ⟨⟨by omega, by omega, fun i hi => ?_, fun i j hj hi => ?_, fun i hi => ?_, fun i hi => ?_, fun i hi => ?_⟩, fb7_fst _ h⟩
      · exact unlessE_zero (by decide) (hf i hi (unlessE (isName (gt7 ts i).nm) 4) (by simp))
      · have := of_decide_eq_true (unlessE_zero (by decide) (hf i hi (unlessE (decide (idxP (fun j => nmEq (gt7 ts j).nm (gt7 ts i).nm) i < 0)) 5) (by simp)))
        rcases idxP_inv (p := fun j => nmEq (gt7 ts j).nm (gt7 ts i).nm) (n := i) with ⟨_, h3⟩ | ⟨k, h3, _⟩
        · exact nmEq_false.1 (h3 j hj)
        · omega
      · exact within_iff.1 (unlessE_zero (by decide) (hf i hi (unlessE (within (gt7 ts i).lag (-100) 100) 2) (by simp)))
      · exact (signalErr_zero (hf i hi (signalErr (gt7 ts i).xs) (by simp))).1
      · exact (signalErr_zero (hf i hi (signalErr (gt7 ts i).xs) (by simp))).2
    · cases h
  · cases h
def medE (ts : List Tf) (n : Int) : Int := firstE [(ckT ts).2, lengthE n, bif holes ts n.toNat then 14 else 0]
theorem medE_zero {ts : List Tf} {n : Int} (h : medE ts n = 0) : (ckT ts).2 = 0 ∧ (1 ≤ n ∧ n ≤ 200) ∧ holes ts n.toNat = false := by
  have hf := firstE_zero h
  have h1 := hf _ (by simp : (ckT ts).2 ∈ _)
  have h2 := hf (lengthE n) (by simp)
  have h3 := hf (bif holes ts n.toNat then 14 else 0) (by simp)
  refine ⟨h1, ?_, ?_⟩
  · unfold lengthE at h2
    cases hw : within n 1 200 <;> rw [hw] at h2
    · cases h2
    · exact within_iff.1 hw
  · cases hh : holes ts n.toNat
    · rfl
    · rw [hh] at h3; cases h3
theorem colTo_samples {ts : List Tf} (hs : ∀ i, i < ts.length → areSamples (gt7 ts i).xs = true) (p : Int) : ∀ n, areSamples (colTo ts p n) = true
  | 0 => rfl
  | n + 1 => by
    have ih := colTo_samples hs p n
    rw [colTo]
    cases hasAt (gt7 ts n) p
    · exact ih
    · rw [cond_true]
      unfold areSamples at ih ⊢
      rw [List.all_append, ih, Bool.true_and]
      have : -32767 ≤ smp (gt7 ts n) p ∧ smp (gt7 ts n) p ≤ 32767 := by
        rcases Nat.lt_or_ge n ts.length with h | h
        · exact sample_gi (hs n h) _
        · rw [gt7_out h]; simp [smp, gi]
      simp [isSample, within, this]
theorem mid_bound {xs : List Int} (h : areSamples xs = true) : -32767 ≤ mid xs ∧ mid xs ≤ 32767 := by
  have h1 := sample_gi (sorted_mem h) (((xs.length : Int) - 1) / 2)
  have h2 := sample_gi (sorted_mem h) ((xs.length : Int) / 2)
  unfold mid
  omega
theorem medAt_bound {ts : List Tf} (h : TfOk ts) (p : Int) : -32767 ≤ medAt ts p ∧ medAt ts p ≤ 32767 := mid_bound (colTo_samples h.smp p _)
theorem smp_bound {ts : List Tf} (h : TfOk ts) {i : Nat} (hi : i < ts.length) (p : Int) : -32767 ≤ smp (gt7 ts i) p ∧ smp (gt7 ts i) p ≤ 32767 := sample_gi (h.smp i hi) _
end Go.Proofs.YtabmhfmglhjmjaaGreatDoor

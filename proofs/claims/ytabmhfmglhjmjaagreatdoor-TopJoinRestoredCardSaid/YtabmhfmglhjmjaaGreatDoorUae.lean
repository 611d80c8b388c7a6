/- Parts of the proof, put together by a program. -/
import Derived.WideShapes
import Derived.Test.YtabmhfmglhjmjaaGreatDoorUad
set_option linter.unusedVariables false
set_option linter.unusedSimpArgs false
set_option linter.unusedSectionVars false
namespace Go.Proofs.YtabmhfmglhjmjaaGreatDoor
open Go.Ab
attribute [local instance] drS
theorem fm_len {α β : Type} {c : α → List β} {k : Nat} (hk : ∀ x, (c x).length = k) : ∀ l : List α, (l.flatMap c).length = l.length * k
  | [] => by simp
  | x :: l => by rw [List.flatMap_cons, List.length_append, hk, fm_len hk l, List.length_cons, Nat.succ_mul]; omega
theorem fm_drop {α β : Type} {c : α → List β} {k : Nat} (hk : ∀ x, (c x).length = k) : ∀ (l : List α) (i : Nat), (l.flatMap c).drop (i * k) = (l.drop i).flatMap c
  | l, 0 => by simp
  | [], i + 1 => by simp
  | x :: l, i + 1 => by
    rw [List.flatMap_cons, List.drop_succ_cons, Nat.succ_mul, Nat.add_comm, ← List.drop_drop, List.drop_left' (hk x), fm_drop hk l i]
theorem fm_at {α β : Type} {c : α → List β} {k : Nat} (hk : ∀ x, (c x).length = k) {l : List α} {i : Nat} (h : i < l.length) : ((l.flatMap c).drop (i * k)).take k = c l[i] := by
  rw [fm_drop hk, List.drop_eq_getElem_cons h, List.flatMap_cons, List.take_left' (hk _)]
theorem fm_get {α β : Type} {c : α → List β} {k : Nat} (hk : ∀ x, (c x).length = k) {l : List α} {i j : Nat} (h : i < l.length) (hj : j < k) : (l.flatMap c)[i * k + j]? = (c l[i])[j]? := by
  have := congrArg (fun z => z[j]?) (fm_at hk h)
  simpa [List.getElem?_take, List.getElem?_drop, hj] using this
def fb7 (e : Nat → Int) : Nat → Int × Int
  | 0 => (0, 0)
  | n + 1 => bif (fb7 e n).2 != 0 then fb7 e n else bif e n != 0 then ((n : Int), e n) else (0, 0)
theorem fb7_zero {e : Nat → Int} : ∀ n : Nat, (∀ i, i < n → e i = 0) → fb7 e n = (0, 0)
  | 0, _ => rfl
  | n + 1, h => by rw [fb7, fb7_zero n fun i hi => h i (by omega), h n (by omega)]; rfl
theorem fb7_at {e : Nat → Int} {i : Nat} (he : e i ≠ 0) (h : ∀ q, q < i → e q = 0) : ∀ n : Nat, i < n → fb7 e n = ((i : Int), e i)
  | n + 1, hi => by
    rw [fb7]
    by_cases q : i = n
    · subst q
      rw [fb7_zero i h, show (e i != 0) = true by simpa using he]
      rfl
    · rw [fb7_at he h n (by omega)]
      rw [show (((i : Int), e i).2 != 0) = true by simpa using he]
      rfl
theorem fb7_none {e : Nat → Int} : ∀ n : Nat, (fb7 e n).2 = 0 → ∀ i, i < n → e i = 0
  | n + 1, h, i, hi => by
    rw [fb7] at h
    cases hq : (fb7 e n).2 != 0 <;> rw [hq] at h
    · rw [cond_false] at h
      cases hr : e n != 0 <;> rw [hr] at h
      · by_cases q : i = n
        · subst q; simpa using hr
        · exact fb7_none n (by simpa using hq) i (by omega)
      · rw [cond_true] at h
        simp only [bne_iff_ne, ne_eq] at hr
        exact absurd h hr
    · rw [cond_true] at h
      simp only [bne_iff_ne, ne_eq] at hq
      exact absurd h hq
theorem fb7_fst {e : Nat → Int} : ∀ n : Nat, (fb7 e n).2 = 0 → (fb7 e n).1 = 0 := fun n h => by
  rw [fb7_zero n (fb7_none n h)]
structure Lmk where
  a : Int
  b : Int
  d : Int
def Lmk.cells (x : Lmk) : List Int := [x.a, x.b, x.d]
def Lmk.ok (x : Lmk) : Bool := within x.a 0 1000000 && (within x.b 0 1000000 && within x.d 0 1000000)
def Lmk.lo (x : Lmk) : Int := x.b - x.a - x.d
def Lmk.hi (x : Lmk) : Int := x.b - x.a + x.d
def flatL (l : List Lmk) : List Int := l.flatMap Lmk.cells
def gl (l : List Lmk) (i : Nat) : Lmk := l.getD i ⟨0, 0, 0⟩
theorem flatL_length (l : List Lmk) : (flatL l).length = l.length * 3 := fm_len (c := Lmk.cells) (fun _ => rfl) l
theorem flatL_at {l : List Lmk} {i : Nat} (h : i < l.length) : ((flatL l).drop (i * 3)).take 3 = [(gl l i).a, (gl l i).b, (gl l i).d] := by
  rw [flatL, fm_at (c := Lmk.cells) (k := 3) (fun _ => rfl) h]
  simp [gl, h, Lmk.cells]
def hiT (l : List Lmk) : Nat → Int
  | 0 => (gl l 0).hi
  | n + 1 => min (hiT l n) (gl l n).hi
theorem range_find {p : Nat → Bool} {n k : Nat} (hk : k < n) (hp : p k = true) (h : ∀ j, j < k → p j = false) : (List.range n).find? p = some k := by
  rw [List.find?_range_eq_some]
  exact ⟨hp, by simpa using hk, fun j hj => by simp [h j hj]⟩
theorem range_findNone {p : Nat → Bool} {n : Nat} (h : ∀ j, j < n → p j = false) : (List.range n).find? p = none := by
  rw [List.find?_eq_none]
  intro x hx
  simp [h x (List.mem_range.1 hx)]
end Go.Proofs.YtabmhfmglhjmjaaGreatDoor
set_option linter.unusedVariables false
set_option linter.unusedSimpArgs false
set_option linter.unusedSectionVars false
namespace Go.Proofs.YtabmhfmglhjmjaaGreatDoor
open Go.Ab
attribute [local instance] drS
theorem bytesLess_lt : ∀ (x y : List UInt8), Op.bytesLess x y = decide (x < y)
  | [], [] => by simp [Op.bytesLess]
  | _ :: _, [] => by simp [Op.bytesLess]
  | [], _ :: _ => by simp [Op.bytesLess]
  | a :: x, b :: y => by
    rw [Op.bytesLess, bytesLess_lt x y]
    simp only [List.cons_lt_cons_iff]
    by_cases h1 : a < b <;> by_cases h2 : a = b <;> by_cases h3 : x < y <;> simp [h1, h2, h3]
def nmEq (a b : ByteArray) : Bool := a.toList == b.toList
def nmLt (a b : ByteArray) : Bool := Op.bytesLess a.toList b.toList
theorem nmEq_iff {a b : ByteArray} : nmEq a b = true ↔ a = b := by
  unfold nmEq
  rw [beq_iff_eq, ByteArray.toList_eq, ByteArray.toList_eq]
  exact ⟨WideShapes.bytes_inj, fun h => by rw [h]⟩
theorem nmEq_false {a b : ByteArray} : nmEq a b = false ↔ a ≠ b := by
  rw [← Bool.not_eq_true, nmEq_iff]
theorem nmLt_iff {a b : ByteArray} : nmLt a b = true ↔ a.data.toList < b.data.toList := by
  unfold nmLt
  rw [bytesLess_lt, decide_eq_true_eq, ByteArray.toList_eq, ByteArray.toList_eq]
theorem nmLt_false {a b : ByteArray} : nmLt a b = false ↔ ¬ a.data.toList < b.data.toList := by
  rw [← Bool.not_eq_true, nmLt_iff]
theorem nmLt_irrefl (a : ByteArray) : nmLt a a = false := nmLt_false.2 (List.lt_irrefl _)
theorem nmLt_trans {a b c : ByteArray} (h : nmLt a b = true) (k : nmLt b c = true) : nmLt a c = true := nmLt_iff.2 (List.lt_trans (nmLt_iff.1 h) (nmLt_iff.1 k))
theorem nmLt_asymm {a b : ByteArray} (h : nmLt a b = true) : nmLt b a = false := nmLt_false.2 (List.lt_asymm (nmLt_iff.1 h))
theorem nmLt_tri {a b : ByteArray} (h : nmLt a b = false) (k : nmLt b a = false) : a = b := by
  have h1 := List.not_lt.1 (nmLt_false.1 h)
  have h2 := List.not_lt.1 (nmLt_false.1 k)
  exact WideShapes.bytes_inj (List.le_antisymm h2 h1)
theorem nmLt_ntrans {a b c : ByteArray} (h : nmLt a b = false) (k : nmLt b c = false) : nmLt a c = false :=
  nmLt_false.2 (List.not_lt.2 (List.le_trans (List.not_lt.1 (nmLt_false.1 k)) (List.not_lt.1 (nmLt_false.1 h))))
def letterB (c : Int) : Bool := (decide (97 ≤ c) && decide (c ≤ 122)) || (decide (65 ≤ c) && decide (c ≤ 90))
def badCh (i : Int) (c : Int) : Bool := !letterB c && (i == 0 || (c != 45 && (decide (c < 48) || decide (57 < c))))
def isName (s : ByteArray) : Bool := !(decide ((s.size : Int) < 1) || decide (12 < (s.size : Int))) && (List.range s.size).all fun i => !badCh i (byteAt s i)
def idxP (p : Nat → Bool) (n : Nat) : Int := match (List.range n).find? p with
  | some i => (i : Int)
  | none => -1
theorem idxP_at {p : Nat → Bool} {n i : Nat} (hi : i < n) (hp : p i = true) (h : ∀ j, j < i → p j = false) : idxP p n = i := by
  unfold idxP; rw [range_find hi hp h]
theorem idxP_none {p : Nat → Bool} {n : Nat} (h : ∀ j, j < n → p j = false) : idxP p n = -1 := by
  unfold idxP; rw [range_findNone h]
theorem idxP_inv {p : Nat → Bool} {n : Nat} : (idxP p n = -1 ∧ ∀ j, j < n → p j = false) ∨ ∃ i : Nat, idxP p n = i ∧ i < n ∧ p i = true ∧ ∀ j, j < i → p j = false := by
  have key : ∀ m : Nat, m ≤ n → (∀ j, j < m → p j = false) ∨ ∃ i : Nat, i < m ∧ p i = true ∧ ∀ j, j < i → p j = false := fun m => by
    induction m with
    | zero => intro _; exact .inl fun j hj => by omega
    | succ m ih =>
      intro hm
      rcases ih (by omega) with h | ⟨i, hi, h1, h2⟩
      · cases hp : p m
        · exact .inl fun j hj => by
            by_cases e : j = m
            · subst e; exact hp
            · exact h j (by omega)
        · exact .inr ⟨m, by omega, hp, h⟩
      · exact .inr ⟨i, by omega, h1, h2⟩
  rcases key n (Nat.le_refl _) with h | ⟨i, hi, h1, h2⟩
  · exact .inl ⟨idxP_none h, h⟩
  · exact .inr ⟨i, idxP_at hi h1 h2, hi, h1, h2⟩
structure Tf where
  nm : ByteArray
  lag : Int
  xs : List Int
def Tf.cells (t : Tf) : List AV := [.v (.string t.nm), iv t.lag, isl t.xs]
def tcs (ts : List Tf) : List AV := ts.flatMap Tf.cells
abbrev tsl (ts : List Tf) : AV := .sl 3 ts.length (tcs ts)
def gt7 (ts : List Tf) (i : Nat) : Tf := ts.getD i ⟨ByteArray.empty, 0, []⟩
theorem gt7_eq {ts : List Tf} {i : Nat} (h : i < ts.length) : gt7 ts i = ts[i] := by simp [gt7, h]
theorem gt7_out {ts : List Tf} {i : Nat} (h : ts.length ≤ i) : gt7 ts i = ⟨ByteArray.empty, 0, []⟩ := by
  unfold gt7; rw [List.getD_eq_getElem?_getD, List.getElem?_eq_none h]; rfl
theorem tcs_len (ts : List Tf) : (tcs ts).length = ts.length * 3 := fm_len (c := Tf.cells) (fun _ => rfl) ts
theorem tcs_at {ts : List Tf} {i : Nat} (h : i < ts.length) : ((tcs ts).drop (i * 3)).take 3 = [.v (.string (gt7 ts i).nm), iv (gt7 ts i).lag, isl (gt7 ts i).xs] := by
  rw [gt7_eq h]; exact fm_at (c := Tf.cells) (fun _ => rfl) h
theorem tcs_0 {ts : List Tf} {i : Nat} (h : i < ts.length) : (tcs ts)[i * 3]? = some (.v (.string (gt7 ts i).nm)) := by
  rw [gt7_eq h]; exact fm_get (c := Tf.cells) (k := 3) (fun _ => rfl) h (j := 0) (by omega)
theorem tcs_1 {ts : List Tf} {i : Nat} (h : i < ts.length) : (tcs ts)[i * 3 + 1]? = some (iv (gt7 ts i).lag) := by
  rw [gt7_eq h]; exact fm_get (c := Tf.cells) (k := 3) (fun _ => rfl) h (j := 1) (by omega)
theorem tcs_2 {ts : List Tf} {i : Nat} (h : i < ts.length) : (tcs ts)[i * 3 + 2]? = some (isl (gt7 ts i).xs) := by
  rw [gt7_eq h]; exact fm_get (c := Tf.cells) (k := 3) (fun _ => rfl) h (j := 2) (by omega)
theorem tcs_take {ts : List Tf} {i : Nat} : (tcs ts).take (i * 3) = tcs (ts.take i) := by
  unfold tcs
  induction ts generalizing i with
  | nil => simp
  | cons t ts ih =>
    cases i with
    | zero => simp
    | succ i =>
      rw [List.take_succ_cons, List.flatMap_cons, List.flatMap_cons, ← ih, Nat.succ_mul, Nat.add_comm (i * 3) 3, List.take_add, List.take_left' (l₁ := t.cells) (i := 3) rfl, List.drop_left' (l₁ := t.cells) (i := 3) rfl]
theorem tcs_snoc (ts : List Tf) (t : Tf) : tcs (ts ++ [t]) = tcs ts ++ t.cells := by simp [tcs]
theorem tcs_plain : ∀ ts : List Tf, plainL (tcs ts) = true
  | [] => rfl
  | t :: ts => by
    have h := tcs_plain ts
    unfold tcs at h ⊢
    rw [List.flatMap_cons]
    simp only [Tf.cells, List.cons_append, List.nil_append, plainL, AV.plain, isl, iv, ints_plain, h, Bool.and_self]
def hasAt (t : Tf) (p : Int) : Bool := within (p + t.lag) 0 ((t.xs.length : Int) - 1)
def smp (t : Tf) (p : Int) : Int := gi t.xs (p + t.lag)
def colTo (ts : List Tf) (p : Int) : Nat → List Int
  | 0 => []
  | n + 1 => bif hasAt (gt7 ts n) p then colTo ts p n ++ [smp (gt7 ts n) p] else colTo ts p n
def col (ts : List Tf) (p : Int) : List Int := colTo ts p ts.length
theorem colTo_len (ts : List Tf) (p : Int) : ∀ n, (colTo ts p n).length ≤ n
  | 0 => by simp [colTo]
  | n + 1 => by
    have := colTo_len ts p n
    rw [colTo]
    cases hasAt (gt7 ts n) p
    · rw [cond_false]; omega
    · rw [cond_true, List.length_append, List.length_singleton]; omega
def mid (xs : List Int) : Int := (gi (sorted xs) (((xs.length : Int) - 1) / 2) + gi (sorted xs) ((xs.length : Int) / 2)) / 2
def medAt (ts : List Tf) (p : Int) : Int := mid (col ts p)
def meds (ts : List Tf) (n : Nat) : List Int := (List.range n).map fun p => medAt ts (p : Nat)
theorem meds_len (ts : List Tf) (n : Nat) : (meds ts n).length = n := by simp [meds]
theorem meds_succ (ts : List Tf) (n : Nat) : meds ts n ++ [medAt ts (n : Nat)] = meds ts (n + 1) := by simp [meds, List.range_succ]
theorem gi_meds {ts : List Tf} {n p : Nat} (h : p < n) : gi (meds ts n) (p : Nat) = medAt ts (p : Nat) := by simp [gi, meds, h]
def hole (ts : List Tf) (p : Nat) : Bool := (col ts (p : Nat)).length == 0
def holes (ts : List Tf) (n : Nat) : Bool := (List.range n).any (hole ts)
theorem holes_false {ts : List Tf} {n : Nat} : holes ts n = false ↔ ∀ p, p < n → hole ts p = false := by simp [holes]
theorem holes_at {ts : List Tf} {n p : Nat} (h : p < n) (hp : hole ts p = true) : holes ts n = true := by
  unfold holes; rw [List.any_eq_true]; exact ⟨p, List.mem_range.2 h, hp⟩
def tfE (ts : List Tf) (i : Nat) : Int := firstE [unlessE (isName (gt7 ts i).nm) 4, unlessE (decide (idxP (fun j => nmEq (gt7 ts j).nm (gt7 ts i).nm) i < 0)) 5, unlessE (within (gt7 ts i).lag (-100) 100) 2, signalErr (gt7 ts i).xs]
def ckT (ts : List Tf) : Int × Int := bif (ts.length : Int) == 0 then (0, 10) else bif decide (6 < (ts.length : Int)) then (0, 8) else fb7 (tfE ts) ts.length
def lengthE (n : Int) : Int := bif within n 1 200 then 0 else 2
structure TfOk (ts : List Tf) : Prop where
  n1 : 1 ≤ ts.length
  n6 : ts.length ≤ 6
  name : ∀ i, i < ts.length → isName (gt7 ts i).nm = true
  uniq : ∀ i j, j < i → i < ts.length → (gt7 ts j).nm ≠ (gt7 ts i).nm
  lag : ∀ i, i < ts.length → -100 ≤ (gt7 ts i).lag ∧ (gt7 ts i).lag ≤ 100
  len : ∀ i, i < ts.length → (gt7 ts i).xs.length ≤ 200
  smp : ∀ i, i < ts.length → areSamples (gt7 ts i).xs = true
theorem firstE_zero : ∀ {es : List Int}, firstE es = 0 → ∀ e ∈ es, e = 0
  | [], _ => fun e he => by simp at he
  | x :: es, h => by
    unfold firstE at h
    cases hx : x != 0 <;> rw [hx] at h
    · rw [cond_false] at h
      intro e he
      rcases List.mem_cons.1 he with rfl | he
      · simpa using hx
      · exact firstE_zero h e he
    · rw [cond_true] at h; simp [h] at hx
theorem firstE_all : ∀ {es : List Int}, (∀ e ∈ es, e = 0) → firstE es = 0
  | [], _ => rfl
  | x :: es, h => by
    unfold firstE
    rw [h x (by simp), bne_self_eq_false, cond_false]
    exact firstE_all fun e he => h e (by simp [he])
theorem unlessE_zero {b : Bool} {e : Int} (he : e ≠ 0) (h : unlessE b e = 0) : b = true := by
  cases b
  · exact absurd h he
  · rfl
theorem ckT_zero {ts : List Tf} (h : (ckT ts).2 = 0) : TfOk ts ∧ (ckT ts).1 = 0 := by
  unfold ckT at h ⊢
  cases h1 : (ts.length : Int) == 0 <;> rw [h1] at h
  · cases h2 : decide (6 < (ts.length : Int)) <;> rw [h2] at h
    · rw [cond_false, cond_false] at h ⊢
      have h1' : (ts.length : Int) ≠ 0 := by simpa using h1
      have h2' := of_decide_eq_false h2
      have hz := fb7_none _ h
      have hf := fun i hi => firstE_zero (hz i hi)
      refine ⟨⟨by omega, by omega, fun i hi => ?_, fun i j hj hi => ?_, fun i hi => ?_, fun i hi => ?_, fun i hi => ?_⟩, fb7_fst _ h⟩
      · exact unlessE_zero (by decide) (hf i hi (unlessE (isName (gt7 ts i).nm) 4) (by simp))
      · have := of_decide_eq_true (unlessE_zero (by decide) (hf i hi (unlessE (decide (idxP (fun j => nmEq (gt7 ts j).nm (gt7 ts i).nm) i < 0)) 5) (by simp)))
        rcases idxP_inv (p := fun j => nmEq (gt7 ts j).nm (gt7 ts i).nm) (n := i) with ⟨_, h3⟩ | ⟨k, h3, _⟩
        · exact nmEq_false.1 (h3 j hj)
        · omega
      · exact within_iff.1 (unlessE_zero (by decide) (hf i hi (unlessE (within (gt7 ts i).lag (-100) 100) 2) (by simp)))
      · exact (signalErr_zero (hf i hi (signalErr (gt7 ts i).xs) (by simp))).1
      · exact (signalErr_zero (hf i hi (signalErr (gt7 ts i).xs) (by simp))).2
    · cases h
  · cases h
def medE (ts : List Tf) (n : Int) : Int := firstE [(ckT ts).2, lengthE n, bif holes ts n.toNat then 14 else 0]
theorem medE_zero {ts : List Tf} {n : Int} (h : medE ts n = 0) : (ckT ts).2 = 0 ∧ (1 ≤ n ∧ n ≤ 200) ∧ holes ts n.toNat = false := by
  have hf := firstE_zero h
  have h1 := hf _ (by simp : (ckT ts).2 ∈ _)
  have h2 := hf (lengthE n) (by simp)
  have h3 := hf (bif holes ts n.toNat then 14 else 0) (by simp)
  refine ⟨h1, ?_, ?_⟩
  · unfold lengthE at h2
    cases hw : within n 1 200 <;> rw [hw] at h2
    · cases h2
    · exact within_iff.1 hw
  · cases hh : holes ts n.toNat
    · rfl
    · rw [hh] at h3; cases h3
theorem colTo_samples {ts : List Tf} (hs : ∀ i, i < ts.length → areSamples (gt7 ts i).xs = true) (p : Int) : ∀ n, areSamples (colTo ts p n) = true
  | 0 => rfl
  | n + 1 => by
    have ih := colTo_samples hs p n
    rw [colTo]
    cases hasAt (gt7 ts n) p
    · exact ih
    · rw [cond_true]
      unfold areSamples at ih ⊢
      rw [List.all_append, ih, Bool.true_and]
      have : -32767 ≤ smp (gt7 ts n) p ∧ smp (gt7 ts n) p ≤ 32767 := by
        rcases Nat.lt_or_ge n ts.length with h | h
        · exact sample_gi (hs n h) _
        · rw [gt7_out h]; simp [smp, gi]
      simp [isSample, within, this]
theorem mid_bound {xs : List Int} (h : areSamples xs = true) : -32767 ≤ mid xs ∧ mid xs ≤ 32767 := by
  have h1 := sample_gi (sorted_mem h) (((xs.length : Int) - 1) / 2)
  have h2 := sample_gi (sorted_mem h) ((xs.length : Int) / 2)
  unfold mid
  omega
theorem medAt_bound {ts : List Tf} (h : TfOk ts) (p : Int) : -32767 ≤ medAt ts p ∧ medAt ts p ≤ 32767 := mid_bound (colTo_samples h.smp p _)
theorem smp_bound {ts : List Tf} (h : TfOk ts) {i : Nat} (hi : i < ts.length) (p : Int) : -32767 ≤ smp (gt7 ts i) p ∧ smp (gt7 ts i) p ≤ 32767 := sample_gi (h.smp i hi) _
end Go.Proofs.YtabmhfmglhjmjaaGreatDoor
set_option linter.unusedVariables false
set_option linter.unusedSimpArgs false
set_option linter.unusedSectionVars false
namespace Go.Proofs.YtabmhfmglhjmjaaGreatDoor
open Go.Ab
attribute [local instance] drS
def chg (c : Int) (i j : Nat) : Int := bif i == j then 0 else c
theorem chg_bound {c : Int} (h : 0 ≤ c) (i j : Nat) : 0 ≤ chg c i j ∧ chg c i j ≤ c := by
  unfold chg; cases i == j <;> simp [h]
def bestN (ok : Nat → Bool) (f : Nat → Int) : Nat → Int
  | 0 => -1
  | n + 1 => bif ok n && (bestN ok f n == -1 || decide (f n < bestN ok f n)) then f n else bestN ok f n
theorem bestN_ok {ok : Nat → Bool} {f : Nat → Int} : ∀ n : Nat, (∀ i, i < n → ok i = true → 0 ≤ f i) →
    (bestN ok f n = -1 ∧ ∀ i, i < n → ok i = false) ∨ ∃ i, i < n ∧ ok i = true ∧ bestN ok f n = f i ∧ ∀ j, j < n → ok j = true → f i ≤ f j
  | 0, _ => .inl ⟨rfl, fun i hi => by omega⟩
  | n + 1, h => by
    have ih := bestN_ok n fun i hi => h i (by omega)
    rw [bestN]
    cases hk : ok n
    · simp only [Bool.false_and, cond_false]
      rcases ih with ⟨h1, h2⟩ | ⟨i, h1, h2, h3, h4⟩
      · exact .inl ⟨h1, fun i hi => by
          by_cases e : i = n
          · subst e; exact hk
          · exact h2 i (by omega)⟩
      · refine .inr ⟨i, by omega, h2, h3, fun j hj hjk => ?_⟩
        by_cases e : j = n
        · subst e; rw [hk] at hjk; cases hjk
        · exact h4 j (by omega) hjk
    · have h0 := h n (by omega) hk
      simp only [Bool.true_and]
      rcases ih with ⟨h1, h2⟩ | ⟨i, h1, h2, h3, h4⟩
      · rw [h1]
        refine .inr ⟨n, by omega, hk, rfl, fun j hj hjk => ?_⟩
        by_cases e : j = n
        · subst e; exact Int.le_refl _
        · rw [h2 j (by omega)] at hjk; cases hjk
      · have h5 := h i (by omega) h2
        rw [show (bestN ok f n == -1) = false from beq_false_of_ne (by omega), Bool.false_or]
        cases hd : decide (f n < bestN ok f n)
        · have hd' := of_decide_eq_false hd
          refine .inr ⟨i, by omega, h2, h3, fun j hj hjk => ?_⟩
          by_cases e : j = n
          · subst e; omega
          · exact h4 j (by omega) hjk
        · have hd' := of_decide_eq_true hd
          refine .inr ⟨n, by omega, hk, rfl, fun j hj hjk => ?_⟩
          by_cases e : j = n
          · subst e; exact Int.le_refl _
          · have := h4 j (by omega) hjk; omega
theorem bestN_congr {ok ok' : Nat → Bool} {f f' : Nat → Int} : ∀ n : Nat, (∀ i, i < n → ok i = ok' i) → (∀ i, i < n → ok i = true → f i = f' i) → bestN ok f n = bestN ok' f' n
  | 0, _, _ => rfl
  | n + 1, h, k => by
    rw [bestN, bestN, bestN_congr n (fun i hi => h i (by omega)) (fun i hi => k i (by omega)), ← h n (by omega)]
    cases hk : ok n
    · rfl
    · rw [k n (by omega) hk]
structure Dp (dv : Nat → Nat → Int) (c : Int) (K T : Nat) (nm : Nat → ByteArray) (B : Int) : Prop where
  K1 : 1 ≤ K
  c0 : 0 ≤ c
  rng : ∀ k i, dv k i = -1 ∨ (0 ≤ dv k i ∧ dv k i ≤ B)
  some : ∀ k, k < K → ∃ i, i < T ∧ dv k i ≠ -1
  uniq : ∀ i j, i < T → j < T → nm i = nm j → i = j
section
variable (dv : Nat → Nat → Int) (c : Int) (K T : Nat) (nm : Nat → ByteArray)
def rb : Nat → Nat → Int
  | 0, i => dv (K - 1) i
  | m + 1, i => bif dv (K - 1 - (m + 1)) i == -1 then -1 else dv (K - 1 - (m + 1)) i + bestN (fun j => rb m j != -1) (fun j => chg c i j + rb m j) T
def rst (k i : Nat) : Int := rb dv c K T (K - 1 - k) i
def okR (k j : Nat) : Bool := rst dv c K T k j != -1
def pk7 (ok : Nat → Bool) (f : Nat → Int) : Nat → Option Nat
  | 0 => none
  | n + 1 => bif ok n then (match pk7 ok f n with
    | none => some n
    | some b => bif decide (f n < f b) || (f n == f b && nmLt (nm n) (nm b)) then some n else some b) else pk7 ok f n
def ch7 : Nat → Nat
  | 0 => (pk7 nm (okR dv c K T 0) (rst dv c K T 0) T).getD 0
  | k + 1 => (pk7 nm (okR dv c K T (k + 1)) (fun j => chg c (ch7 k) j + rst dv c K T (k + 1) j) T).getD 0
def val7 : Nat → Nat → Int
  | 0, j => rst dv c K T 0 j
  | k + 1, j => chg c (ch7 dv c K T nm k) j + rst dv c K T (k + 1) j
theorem val7_zero (j : Nat) : val7 dv c K T nm 0 j = rst dv c K T 0 j := rfl
theorem val7_succ (k j : Nat) : val7 dv c K T nm (k + 1) j = chg c (ch7 dv c K T nm k) j + rst dv c K T (k + 1) j := rfl
def total7 : Int := bestN (okR dv c K T 0) (rst dv c K T 0) T
def costTo (s : Nat → Nat) : Nat → Int
  | 0 => 0
  | k + 1 => costTo s k + dv k (s k) + (bif k == 0 then 0 else chg c (s (k - 1)) (s k))
end
theorem pk7_ok {nm : Nat → ByteArray} {T : Nat} (hu : ∀ i j, i < T → j < T → nm i = nm j → i = j) {ok : Nat → Bool} {f : Nat → Int} : ∀ n : Nat, n ≤ T →
    (pk7 nm ok f n = none ∧ ∀ i, i < n → ok i = false) ∨ ∃ b, pk7 nm ok f n = some b ∧ b < n ∧ ok b = true ∧ ∀ j, j < n → ok j = true → f b < f j ∨ (f b = f j ∧ (j = b ∨ nmLt (nm b) (nm j) = true))
  | 0, _ => .inl ⟨rfl, fun i hi => by omega⟩
  | n + 1, hn => by
    have ih := pk7_ok hu (ok := ok) (f := f) n (by omega)
    rw [pk7]
    cases hk : ok n
    · rw [cond_false]
      rcases ih with ⟨h1, h2⟩ | ⟨b, h1, h2, h3, h4⟩
      · exact .inl ⟨h1, fun i hi => by
          by_cases e : i = n
          · subst e; exact hk
          · exact h2 i (by omega)⟩
      · refine .inr ⟨b, h1, by omega, h3, fun j hj hjk => ?_⟩
        by_cases e : j = n
        · subst e; rw [hk] at hjk; cases hjk
        · exact h4 j (by omega) hjk
    · rw [cond_true]
      rcases ih with ⟨h1, h2⟩ | ⟨b, h1, h2, h3, h4⟩
      · rw [h1]
        refine .inr ⟨n, rfl, by omega, hk, fun j hj hjk => ?_⟩
        by_cases e : j = n
        · subst e; exact .inr ⟨rfl, .inl rfl⟩
        · rw [h2 j (by omega)] at hjk; cases hjk
      · rw [h1]
        dsimp only
        cases hd : decide (f n < f b) || (f n == f b && nmLt (nm n) (nm b))
        · rw [cond_false]
          simp only [Bool.or_eq_false_iff, decide_eq_false_iff_not, Bool.and_eq_false_iff, beq_eq_false_iff_ne, ne_eq] at hd
          refine .inr ⟨b, rfl, by omega, h3, fun j hj hjk => ?_⟩
          by_cases e : j = n
          · subst e
            rcases hd.2 with h5 | h5
            · left; omega
            · by_cases e2 : f b = f j
              · refine .inr ⟨e2, .inr ?_⟩
                cases hl : nmLt (nm b) (nm j)
                · exact absurd (hu _ _ (by omega) (by omega) (nmLt_tri hl h5)) (by omega)
                · rfl
              · left; omega
          · exact h4 j (by omega) hjk
        · rw [cond_true]
          simp only [Bool.or_eq_true, decide_eq_true_eq, Bool.and_eq_true, beq_iff_eq] at hd
          refine .inr ⟨n, rfl, by omega, hk, fun j hj hjk => ?_⟩
          by_cases e : j = n
          · subst e; exact .inr ⟨rfl, .inl rfl⟩
          · rcases h4 j (by omega) hjk with h5 | ⟨h5, h6⟩
            · left; omega
            · rcases hd with h7 | ⟨h7, h8⟩
              · left; omega
              · refine .inr ⟨by omega, .inr ?_⟩
                rcases h6 with rfl | h6
                · exact h8
                · exact nmLt_trans h8 h6
section
variable {dv : Nat → Nat → Int} {c : Int} {K T : Nat} {nm : Nat → ByteArray} {B : Int}
theorem rst_last (hK : 1 ≤ K) (i : Nat) : rst dv c K T (K - 1) i = dv (K - 1) i := by unfold rst; rw [Nat.sub_self]; rfl
theorem rst_step {k : Nat} (h : k + 1 < K) (i : Nat) : rst dv c K T k i = bif dv k i == -1 then -1 else dv k i + bestN (okR dv c K T (k + 1)) (fun j => chg c i j + rst dv c K T (k + 1) j) T := by
  unfold rst okR rst
  have e : K - 1 - k = (K - 1 - (k + 1)) + 1 := by omega
  rw [e, rb, show K - 1 - (K - 1 - (k + 1) + 1) = k by omega]
theorem rst_sign (h : Dp dv c K T nm B) : ∀ m k : Nat, K - 1 - k = m → k < K → ∀ i, (rst dv c K T k i = -1 ∧ dv k i = -1) ∨ (dv k i ≠ -1 ∧ dv k i ≤ rst dv c K T k i ∧ 0 ≤ rst dv c K T k i ∧ rst dv c K T k i ≤ (m + 1) * (B + c))
  | 0, k, hm, hk, i => by
    obtain rfl : k = K - 1 := by omega
    rw [rst_last h.K1]
    have := h.rng (K - 1) i
    have := h.c0
    omega
  | m + 1, k, hm, hk, i => by
    have ih := rst_sign h m (k + 1) (by omega) (by omega)
    rw [rst_step (by omega)]
    have hd := h.rng k i
    cases e : dv k i == -1
    · rw [cond_false]
      have e' : dv k i ≠ -1 := by simpa using e
      obtain ⟨j0, hj0, hj1⟩ := h.some (k + 1) (by omega)
      have hf : ∀ j, j < T → okR dv c K T (k + 1) j = true → 0 ≤ chg c i j + rst dv c K T (k + 1) j := fun j _ hj => by
        have h1 := (chg_bound h.c0 i j).1
        have h2 := ih j
        unfold okR at hj
        simp only [bne_iff_ne, ne_eq] at hj
        omega
      rcases bestN_ok T hf with ⟨_, h2⟩ | ⟨j, h1, h2, h3, h4⟩
      · have := h2 j0 hj0
        unfold okR at this
        simp only [bne_eq_false_iff_eq] at this
        have := ih j0
        omega
      · rw [h3]
        have h5 := hf j h1 h2
        have h6 := ih j
        have h7 := (chg_bound h.c0 i j).2
        unfold okR at h2
        simp only [bne_iff_ne, ne_eq] at h2
        have h8 : ((m + 1 : Nat) + 1 : Int) * (B + c) = (m + 1) * (B + c) + (B + c) := by rw [Int.add_mul, Int.one_mul]; simp
        right
        refine ⟨e', ?_, ?_, ?_⟩
        · omega
        · omega
        · rw [h8]; omega
    · rw [cond_true]
      exact .inl ⟨rfl, by simpa using e⟩
theorem okR_iff (h : Dp dv c K T nm B) {k : Nat} (hk : k < K) (i : Nat) : okR dv c K T k i = true ↔ dv k i ≠ -1 := by
  have := rst_sign h _ k rfl hk i
  unfold okR
  simp only [bne_iff_ne, ne_eq]
  omega
theorem rst_nonneg (h : Dp dv c K T nm B) {k : Nat} (hk : k < K) {i : Nat} (hi : dv k i ≠ -1) : 0 ≤ rst dv c K T k i := by
  have := rst_sign h _ k rfl hk i
  omega
theorem rst_bound (h : Dp dv c K T nm B) (hB : 0 ≤ B) {k : Nat} (hk : k < K) (i : Nat) : -1 ≤ rst dv c K T k i ∧ rst dv c K T k i ≤ K * (B + c) := by
  have h1 := rst_sign h _ k rfl hk i
  have hc := h.c0
  have h2 : ((K - 1 - k : Nat) + 1 : Int) * (B + c) ≤ K * (B + c) := Int.mul_le_mul_of_nonneg_right (by omega) (by omega)
  have h3 : 0 ≤ (K : Int) * (B + c) := Int.mul_nonneg (by omega) (by omega)
  omega
theorem ch7_ok (h : Dp dv c K T nm B) {k : Nat} (hk : k < K) : ch7 dv c K T nm k < T ∧ dv k (ch7 dv c K T nm k) ≠ -1 ∧
    ∀ j, j < T → dv k j ≠ -1 → val7 dv c K T nm k (ch7 dv c K T nm k) < val7 dv c K T nm k j ∨ (val7 dv c K T nm k (ch7 dv c K T nm k) = val7 dv c K T nm k j ∧ (j = ch7 dv c K T nm k ∨ nmLt (nm (ch7 dv c K T nm k)) (nm j) = true)) := by
  obtain ⟨j0, hj0, hj1⟩ := h.some k hk
  have e : ch7 dv c K T nm k = (pk7 nm (okR dv c K T k) (val7 dv c K T nm k) T).getD 0 := by cases k <;> rfl
  rcases pk7_ok (nm := nm) (T := T) h.uniq (ok := okR dv c K T k) (f := val7 dv c K T nm k) T (Nat.le_refl _) with ⟨_, h2⟩ | ⟨b, h1, h2, h3, h4⟩
  · have := h2 j0 hj0
    rw [(okR_iff h hk j0).2 hj1] at this
    cases this
  · rw [h1] at e
    have e' : ch7 dv c K T nm k = b := e
    rw [e']
    exact ⟨h2, (okR_iff h hk b).1 h3, fun j hj hjk => h4 j hj ((okR_iff h hk j).2 hjk)⟩
theorem ch7_unique (h : Dp dv c K T nm B) {k : Nat} (hk : k < K) {b : Nat} (hb : b < T) (hd : dv k b ≠ -1)
    (hm : ∀ j, j < T → dv k j ≠ -1 → val7 dv c K T nm k b < val7 dv c K T nm k j ∨ (val7 dv c K T nm k b = val7 dv c K T nm k j ∧ nmLt (nm j) (nm b) = false)) : ch7 dv c K T nm k = b := by
  obtain ⟨h1, h2, h3⟩ := ch7_ok h hk
  have a1 := h3 b hb hd
  have a2 := hm _ h1 h2
  rcases a1 with a1 | ⟨a1, rfl | a3⟩
  · omega
  · rfl
  · rcases a2 with a2 | ⟨_, a2⟩
    · omega
    · rw [a2] at a3; cases a3
def left7 (dv : Nat → Nat → Int) (c : Int) (K T : Nat) (nm : Nat → ByteArray) (k : Nat) : Int := val7 dv c K T nm k (ch7 dv c K T nm k)
theorem left7_zero (h : Dp dv c K T nm B) : left7 dv c K T nm 0 = total7 dv c K T := by
  obtain ⟨h1, h2, h3⟩ := ch7_ok h h.K1
  rcases bestN_ok (ok := okR dv c K T 0) (f := rst dv c K T 0) T (fun i _ hi => rst_nonneg h h.K1 ((okR_iff h h.K1 i).1 hi)) with ⟨_, h5⟩ | ⟨i, h5, h6, h7, h8⟩
  · have := h5 _ h1
    rw [(okR_iff h h.K1 _).2 h2] at this
    cases this
  · have a1 := h3 i h5 ((okR_iff h h.K1 i).1 h6)
    have a2 := h8 _ h1 ((okR_iff h h.K1 _).2 h2)
    unfold left7 total7
    rw [h7]
    simp only [val7_zero, val7_succ] at a1 ⊢
    omega
theorem left7_succ (h : Dp dv c K T nm B) {k : Nat} (hk : k + 1 < K) : left7 dv c K T nm (k + 1) = rst dv c K T k (ch7 dv c K T nm k) - dv k (ch7 dv c K T nm k) := by
  obtain ⟨_, g2, _⟩ := ch7_ok h (k := k) (by omega)
  obtain ⟨h1, h2, h3⟩ := ch7_ok h hk
  rw [rst_step hk, show (dv k (ch7 dv c K T nm k) == -1) = false by simpa using g2, cond_false]
  have hf : ∀ j, j < T → okR dv c K T (k + 1) j = true → 0 ≤ chg c (ch7 dv c K T nm k) j + rst dv c K T (k + 1) j := fun j _ hj => by
    have a1 := (chg_bound h.c0 (ch7 dv c K T nm k) j).1
    have a2 := rst_nonneg h hk ((okR_iff h hk j).1 hj)
    omega
  rcases bestN_ok T hf with ⟨_, h5⟩ | ⟨i, h5, h6, h7, h8⟩
  · have := h5 _ h1
    rw [(okR_iff h hk _).2 h2] at this
    cases this
  · have a1 := h3 i h5 ((okR_iff h hk i).1 h6)
    have a2 := h8 _ h1 ((okR_iff h hk _).2 h2)
    rw [h7]
    unfold left7
    simp only [val7_zero, val7_succ] at a1 ⊢
    omega
def Good7 (dv : Nat → Nat → Int) (K T : Nat) (s : Nat → Nat) : Prop := ∀ k, k < K → s k < T ∧ dv k (s k) ≠ -1
theorem cost_ge (h : Dp dv c K T nm B) {s : Nat → Nat} (hs : Good7 dv K T s) : ∀ m k : Nat, K - 1 - k = m → k < K → costTo dv c s (k + 1) - dv k (s k) + rst dv c K T k (s k) ≤ costTo dv c s K
  | 0, k, hm, hk => by
    obtain rfl : k = K - 1 := by omega
    rw [rst_last h.K1, show K - 1 + 1 = K by omega]
    omega
  | m + 1, k, hm, hk => by
    have ih := cost_ge h hs m (k + 1) (by omega) (by omega)
    obtain ⟨g1, g2⟩ := hs k hk
    obtain ⟨g3, g4⟩ := hs (k + 1) (by omega)
    rw [costTo, show (k + 1 == 0) = false from rfl, cond_false, Nat.add_sub_cancel] at ih
    rw [rst_step (by omega), show (dv k (s k) == -1) = false by simpa using g2, cond_false]
    have hf : ∀ j, j < T → okR dv c K T (k + 1) j = true → 0 ≤ chg c (s k) j + rst dv c K T (k + 1) j := fun j _ hj => by
      have a1 := (chg_bound h.c0 (s k) j).1
      have a2 := rst_nonneg h (k := k + 1) (by omega) ((okR_iff h (by omega) j).1 hj)
      omega
    rcases bestN_ok T hf with ⟨_, h5⟩ | ⟨i, h5, h6, h7, h8⟩
    · have := h5 _ g3
      rw [(okR_iff h (by omega) _).2 g4] at this
      cases this
    · have a2 := h8 _ g3 ((okR_iff h (by omega) _).2 g4)
      rw [h7]
      omega
theorem cost_best (h : Dp dv c K T nm B) : ∀ k : Nat, k < K → costTo dv c (ch7 dv c K T nm) k + left7 dv c K T nm k = total7 dv c K T
  | 0, _ => by rw [left7_zero h, costTo]; omega
  | k + 1, hk => by
    have ih := cost_best h k (by omega)
    rw [left7_succ h hk, costTo]
    unfold left7 at ih
    cases k with
    | zero => simp only [val7_zero, val7_succ] at ih; simp only [beq_self_eq_true, cond_true]; omega
    | succ k => simp only [val7_zero, val7_succ] at ih; simp only [show (k + 1 == 0) = false from rfl, cond_false, Nat.add_sub_cancel]; omega
theorem cost_total (h : Dp dv c K T nm B) : costTo dv c (ch7 dv c K T nm) K = total7 dv c K T := by
  have h1 := cost_best h (K - 1) (by have := h.K1; omega)
  obtain ⟨k, rfl⟩ : ∃ k, K = k + 1 := ⟨K - 1, by have := h.K1; omega⟩
  rw [Nat.add_sub_cancel] at h1
  have h2 := rst_last (dv := dv) (c := c) (K := k + 1) (T := T) h.K1 (ch7 dv c (k + 1) T nm k)
  rw [Nat.add_sub_cancel] at h2
  rw [costTo]
  unfold left7 at h1
  cases k with
  | zero => simp only [val7_zero, val7_succ] at h1; simp only [beq_self_eq_true, cond_true]; omega
  | succ k => simp only [val7_zero, val7_succ] at h1; simp only [show (k + 1 == 0) = false from rfl, cond_false, Nat.add_sub_cancel]; omega
theorem cost_least (h : Dp dv c K T nm B) {s : Nat → Nat} (hs : Good7 dv K T s) : total7 dv c K T ≤ costTo dv c s K := by
  have h1 := cost_ge h hs _ 0 rfl h.K1
  obtain ⟨g1, g2⟩ := hs 0 h.K1
  obtain ⟨a1, a2, a3⟩ := ch7_ok h h.K1
  have a4 := a3 _ g1 g2
  rw [← left7_zero h]
  unfold left7
  simp only [val7_zero, val7_succ] at a4 ⊢
  rw [costTo, costTo] at h1
  simp only [beq_self_eq_true, cond_true] at h1
  omega
end
def cov (ts : List Tf) (g k i : Nat) : Bool := (List.range g).all fun q => hasAt (gt7 ts i) ((k * g + q : Nat) : Int)
def dvTo (ts : List Tf) (g k i : Nat) (n : Nat) : Int := sumTo (fun q => ((smp (gt7 ts i) ((k * g + q : Nat) : Int) - medAt ts ((k * g + q : Nat) : Int)).natAbs : Int)) n
def dvn (ts : List Tf) (g k i : Nat) : Int := bif cov ts g k i then dvTo ts g k i g else -1
theorem cov_bad {ts : List Tf} {g k i q : Nat} (hq : q < g) (h : hasAt (gt7 ts i) ((k * g + q : Nat) : Int) = false) : cov ts g k i = false := by
  unfold cov
  rw [List.all_eq_false]
  exact ⟨q, List.mem_range.2 hq, by simpa using h⟩
theorem cov_iff {ts : List Tf} {g k i : Nat} : cov ts g k i = true ↔ ∀ q, q < g → hasAt (gt7 ts i) ((k * g + q : Nat) : Int) = true := by
  unfold cov
  rw [List.all_eq_true]
  exact ⟨fun h q hq => h q (List.mem_range.2 hq), fun h q hq => h q (List.mem_range.1 hq)⟩
theorem colTo_pos {ts : List Tf} {p : Int} {i : Nat} (h : hasAt (gt7 ts i) p = true) : ∀ n, i < n → 1 ≤ (colTo ts p n).length
  | n + 1, hi => by
    rw [colTo]
    by_cases e : i = n
    · subst e; rw [h, cond_true, List.length_append, List.length_singleton]; omega
    · have := colTo_pos h n (by omega)
      cases hasAt (gt7 ts n) p
      · exact this
      · rw [cond_true, List.length_append]; omega
theorem dvTo_bound {ts : List Tf} (h : TfOk ts) {i : Nat} (hi : i < ts.length) (g k : Nat) (n : Nat) : 0 ≤ dvTo ts g k i n ∧ dvTo ts g k i n ≤ n * 65534 := by
  refine sumTo_bound fun q hq => ?_
  have h1 := smp_bound h hi ((k * g + q : Nat) : Int)
  have h2 := medAt_bound h ((k * g + q : Nat) : Int)
  omega
def devRow (ts : List Tf) (g k : Nat) : List Int := (List.range ts.length).map (dvn ts g k)
def devTo (ts : List Tf) (g k n : Nat) : List Int := (List.range n).map (dvn ts g k)
theorem devTo_len (ts : List Tf) (g k n : Nat) : (devTo ts g k n).length = n := by simp [devTo]
theorem devTo_succ (ts : List Tf) (g k n : Nat) : devTo ts g k n ++ [dvn ts g k n] = devTo ts g k (n + 1) := by simp [devTo, List.range_succ]
theorem devRow_len (ts : List Tf) (g k : Nat) : (devRow ts g k).length = ts.length := by simp [devRow]
theorem gi_devRow {ts : List Tf} {g k i : Nat} (h : i < ts.length) : gi (devRow ts g k) (i : Nat) = dvn ts g k i := by simp [gi, devRow, h]
def gap7 (ts : List Tf) (g k : Nat) : Bool := (devRow ts g k).all fun n => n == -1
def gaps7 (ts : List Tf) (g K : Nat) : Bool := (List.range K).any (gap7 ts g)
theorem gaps7_false {ts : List Tf} {g K : Nat} : gaps7 ts g K = false ↔ ∀ k, k < K → gap7 ts g k = false := by simp [gaps7]
theorem gaps7_at {ts : List Tf} {g K k : Nat} (h : k < K) (hk : gap7 ts g k = true) : gaps7 ts g K = true := by
  unfold gaps7; rw [List.any_eq_true]; exact ⟨k, List.mem_range.2 h, hk⟩
def tkE1 (ts : List Tf) (n g c : Int) : Int := firstE [(ckT ts).2, lengthE n, unlessE (within g 1 n && within c 0 1000000) 2]
def tkE2 (n g : Int) : Int := firstE [unlessE (n.tmod g == 0) 10, unlessE (decide (n.tdiv g ≤ 20)) 8]
def tkE (ts : List Tf) (n g c : Int) : Int := bif tkE1 ts n g c != 0 then tkE1 ts n g c else bif tkE2 n g != 0 then tkE2 n g else bif gaps7 ts g.toNat (n.toNat / g.toNat) then 14 else 0
structure TkOk (ts : List Tf) (n g c : Int) (K G : Nat) : Prop where
  ok : TfOk ts
  nb : 1 ≤ n ∧ n ≤ 200
  gG : g = G
  G1 : 1 ≤ G
  cb : 0 ≤ c ∧ c ≤ 1000000
  K1 : 1 ≤ K
  K20 : K ≤ 20
  KG : n = K * G
theorem tkE1_zero {ts : List Tf} {n g c : Int} (h : tkE1 ts n g c = 0) : TfOk ts ∧ (1 ≤ n ∧ n ≤ 200) ∧ (1 ≤ g ∧ g ≤ n) ∧ (0 ≤ c ∧ c ≤ 1000000) := by
  have hf := firstE_zero h
  have h1 : (ckT ts).2 = 0 := hf _ (by simp)
  have h2 : lengthE n = 0 := hf _ (by simp)
  have h3 := unlessE_zero (by decide) (hf (unlessE (within g 1 n && within c 0 1000000) 2) (by simp))
  simp only [Bool.and_eq_true] at h3
  refine ⟨(ckT_zero h1).1, ?_, within_iff.1 h3.1, within_iff.1 h3.2⟩
  unfold lengthE at h2
  cases hw : within n 1 200 <;> rw [hw] at h2
  · cases h2
  · exact within_iff.1 hw
theorem tk_ok {ts : List Tf} {n g c : Int} (h1 : tkE1 ts n g c = 0) (h2 : tkE2 n g = 0) : TkOk ts n g c (n.toNat / g.toNat) g.toNat := by
  obtain ⟨a, b, d, e⟩ := tkE1_zero h1
  have hf := firstE_zero h2
  have m1 := unlessE_zero (by decide) (hf (unlessE (n.tmod g == 0) 10) (by simp))
  have m2 := of_decide_eq_true (unlessE_zero (by decide) (hf (unlessE (decide (n.tdiv g ≤ 20)) 8) (by simp)))
  have m1' : n.tmod g = 0 := by simpa using m1
  obtain ⟨N, rfl⟩ : ∃ N : Nat, n = N := ⟨n.toNat, by omega⟩
  obtain ⟨G, rfl⟩ : ∃ G : Nat, g = G := ⟨g.toNat, by omega⟩
  rw [← Int.ofNat_tmod] at m1'
  rw [← Int.ofNat_tdiv] at m2
  rw [Int.toNat_natCast, Int.toNat_natCast]
  have hdm := Nat.div_add_mod N G
  have m0 : N % G = 0 := by omega
  have hG : 0 < G := by omega
  refine ⟨a, b, rfl, by omega, e, Nat.div_pos (by omega) hG, by omega, ?_⟩
  rw [m0, Nat.add_zero, Nat.mul_comm] at hdm
  rw [← Int.natCast_mul, hdm]
end Go.Proofs.YtabmhfmglhjmjaaGreatDoor

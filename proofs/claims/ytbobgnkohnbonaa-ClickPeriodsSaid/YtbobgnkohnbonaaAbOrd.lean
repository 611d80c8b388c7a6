/- The abstract machine, part 8: a region that draws its order: one walk in the order of the text serves every order. -/
import Derived.Test.YtbobgnkohnbonaaAbReg
set_option linter.unusedVariables false
set_option linter.unusedSimpArgs false
namespace Go.Ab
open Go.RowKit

def preds (o : Oper) : List Nat := (o.after.toList.filter (Region.binds .any)).map (·.on)

def orAll (ms : List Nat) : List Nat → Nat
  | [] => 0
  | p :: ps => orAll ms ps ||| ((1 <<< p) ||| ms.getD p 0)

/-- All that stands ahead of each operation, as bits. -/
def ancs : List Oper → List Nat → List Nat
  | [], ms => ms
  | o :: l, ms => ancs l (ms ++ [orAll ms (preds o)])

theorem orAll_bit (ms : List Nat) (j : Nat) : ∀ (ps : List Nat), (orAll ms ps).testBit j = true → ∃ p ∈ ps, j = p ∨ (ms.getD p 0).testBit j = true
  | [], h => by simp [orAll] at h
  | p :: ps, h => by
    simp only [orAll, Nat.testBit_or, Bool.or_eq_true] at h
    rcases h with h | h | h
    · obtain ⟨q, hq, h⟩ := orAll_bit ms j ps h
      exact ⟨q, by simp [hq], h⟩
    · refine ⟨p, by simp, .inl ?_⟩
      rw [Nat.one_shiftLeft, Nat.testBit_two_pow] at h
      simpa using (of_decide_eq_true h).symm
    · exact ⟨p, by simp, .inr h⟩

theorem ancs_take : ∀ (l : List Oper) (ms : List Nat) (k : Nat), k ≤ ms.length → (ancs l ms).take k = ms.take k
  | [], ms, k, _ => rfl
  | o :: l, ms, k, h => by
    rw [ancs, ancs_take l _ k (by simp; omega), List.take_append_of_le_length h]

theorem ancs_getD (l : List Oper) (ms : List Nat) (k : Nat) (h : k < ms.length) : (ancs l ms).getD k 0 = ms.getD k 0 := by
  have := ancs_take l ms (k + 1) (by omega)
  have h1 : ((ancs l ms).take (k + 1))[k]? = (ms.take (k + 1))[k]? := by rw [this]
  rw [List.getElem?_take_of_lt (by omega), List.getElem?_take_of_lt (by omega)] at h1
  simp [List.getD_eq_getElem?_getD, h1]

theorem ancs_at : ∀ (l : List Oper) (ms : List Nat) (i : Nat) (o : Oper), l[i]? = some o → ∃ ms', (ancs l ms).getD (ms.length + i) 0 = orAll ms' (preds o) ∧ ms'.length = ms.length + i ∧ ∀ p, p < ms.length + i → ms'.getD p 0 = (ancs l ms).getD p 0
  | [], ms, i, o, h => by simp at h
  | o' :: l, ms, 0, o, h => by
    simp at h
    subst h
    refine ⟨ms, ?_, by simp, fun p hp => ?_⟩
    · rw [ancs, ancs_getD l _ _ (by simp)]
      simp
    · rw [ancs, ancs_getD l _ _ (by simp at hp ⊢; omega)]
      simp only [Nat.add_zero] at hp
      simp [List.getD_eq_getElem?_getD, List.getElem?_append_left hp]
  | o' :: l, ms, i + 1, o, h => by
    obtain ⟨ms', h1, h2, h3⟩ := ancs_at l (ms ++ [orAll ms (preds o')]) i o (by simpa using h)
    simp only [List.length_append, List.length_cons, List.length_nil] at h1 h2 h3
    refine ⟨ms', ?_, by omega, fun p hp => ?_⟩
    · rw [ancs, show ms.length + (i + 1) = ms.length + (0 + 1) + i by omega]; exact h1
    · rw [ancs]; exact h3 p (by omega)

/-- An operation that does not look at memory, and that all others wait for, or come before, or have nothing to do with. -/
def flB (ops : Array Oper) (l : List Oper) (m : Nat) (j : Nat) (oj : Oper) : Bool :=
  floB oj && (List.range l.length).all fun k => k == j || m.testBit k || match l[k]? with
    | none => true
    | some ok => ok.after.toList.any (fun e => Region.binds .any e && e.on == j) || oj.apart ops ok

def noSel (l : List Oper) : Bool := l.all fun o => match o.op with
  | .select _ _ => false
  | _ => true

/-- The looks at a region: edges go back; whatever conflicts is ordered; from operation h on each waits for all before it, but for those that do not look at memory (if fl). -/
def ordB (fl : Bool) (ops : Array Oper) (h : Nat) : Bool :=
  let l := ops.toList
  let ms := ancs l []
  decide (h ≤ ops.size) &&
  (bif fl then noSel l else true) &&
  (List.range ops.size).all fun i =>
    match l[i]? with
    | none => true
    | some o =>
      (preds o).all (fun p => decide (p < i)) &&
      (List.range i).all fun j =>
        match l[j]? with
        | none => true
        | some o' => (ms.getD i 0).testBit j || (decide (i < h) && o'.apart ops o) || (fl && decide (j < h) && flB ops l (ms.getD j 0) j o' && o'.apart ops o)

section
variable {fl : Bool} {ops : Array Oper} {h : Nat}

theorem ordB_le (hb : ordB fl ops h = true) : h ≤ ops.size := by
  simp only [ordB, Bool.and_eq_true, decide_eq_true_eq] at hb
  exact hb.1.1

theorem ordB_sel (hb : ordB fl ops h = true) (hf : fl = true) (j : Nat) (o : Oper) (cs : Array SelectCase) (b : Bool) (ho : ops[j]? = some o) : o.op ≠ .select cs b := by
  simp only [ordB, Bool.and_eq_true, decide_eq_true_eq] at hb
  have h1 := hb.1.2
  rw [hf, cond_true] at h1
  unfold noSel at h1
  rw [List.all_eq_true] at h1
  have hm : o ∈ ops.toList := by
    have := Array.mem_of_getElem? ho
    simpa using this
  intro e
  have := h1 o hm
  rw [e] at this
  cases this

theorem ordB_pred (hb : ordB fl ops h = true) {i : Nat} {o : Oper} (ho : ops[i]? = some o) {e : Edge} (he : e ∈ o.after) (hbd : Region.binds .any e = true) : e.on < i := by
  simp only [ordB, Bool.and_eq_true, List.all_eq_true, List.mem_range] at hb
  have hi : i < ops.size := (Array.getElem?_eq_some_iff.1 ho).1
  have h1 := hb.2 i hi
  have ho' : ops.toList[i]? = some o := by simpa using ho
  rw [ho'] at h1
  simp only [Bool.and_eq_true, List.all_eq_true] at h1
  have := h1.1 e.on (by unfold preds; exact List.mem_map.2 ⟨e, List.mem_filter.2 ⟨by simpa using he, hbd⟩, rfl⟩)
  simpa using this

theorem ordB_pair (hb : ordB fl ops h = true) {i j : Nat} {o o' : Oper} (ho : ops[i]? = some o) (ho' : ops[j]? = some o') (hji : j < i) :
    ((ancs ops.toList []).getD i 0).testBit j = true ∨ (i < h ∧ o'.apart ops o = true) ∨ (fl = true ∧ j < h ∧ flB ops ops.toList ((ancs ops.toList []).getD j 0) j o' = true ∧ o'.apart ops o = true) := by
  simp only [ordB, Bool.and_eq_true, List.all_eq_true, List.mem_range] at hb
  have hi : i < ops.size := (Array.getElem?_eq_some_iff.1 ho).1
  have h1 := hb.2 i hi
  have ho1 : ops.toList[i]? = some o := by simpa using ho
  have ho2 : ops.toList[j]? = some o' := by simpa using ho'
  rw [ho1] at h1
  simp only [Bool.and_eq_true, List.all_eq_true, List.mem_range] at h1
  have h2 := h1.2 j hji
  rw [ho2] at h2
  simp only [Bool.or_eq_true, Bool.and_eq_true, decide_eq_true_eq] at h2
  rcases h2 with (h2 | h2) | h2
  · exact .inl h2
  · exact .inr (.inl h2)
  · exact .inr (.inr ⟨h2.1.1.1, h2.1.1.2, h2.1.2, h2.2⟩)

theorem flB_flo {l : List Oper} {m j : Nat} {oj : Oper} (hb : flB ops l m j oj = true) : floB oj = true := by
  simp only [flB, Bool.and_eq_true] at hb
  exact hb.1

theorem flB_spec {m j : Nat} {oj : Oper} (hb : flB ops ops.toList m j oj = true) {k : Nat} {ok : Oper} (hk : ops[k]? = some ok) (hne : k ≠ j) : m.testBit k = true ∨ (∃ e ∈ ok.after, Region.binds .any e = true ∧ e.on = j) ∨ oj.apart ops ok = true := by
  simp only [flB, Bool.and_eq_true, List.all_eq_true, List.mem_range] at hb
  have hlt : k < ops.toList.length := by simpa using (Array.getElem?_eq_some_iff.1 hk).1
  have := hb.2 k hlt
  rw [show ops.toList[k]? = some ok by simpa using hk] at this
  simp only [Bool.or_eq_true, beq_iff_eq] at this
  rcases this with (h1 | h1) | h1 | h1
  · exact absurd h1 hne
  · exact .inl h1
  · rw [List.any_eq_true] at h1
    obtain ⟨e, he, h2⟩ := h1
    simp only [Bool.and_eq_true, beq_iff_eq] at h2
    exact .inr (.inl ⟨e, by simpa using he, h2.1, h2.2⟩)
  · exact .inr (.inr h1)

/-- What has been carried out holds all that stands ahead of it. -/
def Closed (ops : Array Oper) (L : Array Bool) : Prop := L.size = ops.size ∧ ∀ (i : Nat) (o : Oper), ops[i]? = some o → L.getD i false = true → ∀ e ∈ o.after, Region.binds .any e = true → L.getD e.on false = true

theorem closed_anc (hb : ordB fl ops h = true) {L : Array Bool} (hc : Closed ops L) : ∀ (i : Nat) (o : Oper), ops[i]? = some o → (∀ e ∈ o.after, Region.binds .any e = true → L.getD e.on false = true) →
    ∀ j, ((ancs ops.toList []).getD i 0).testBit j = true → L.getD j false = true := by
  intro i
  induction i using Nat.strongRecOn with
  | _ i ih =>
    intro o ho hp j hj
    obtain ⟨ms', h1, h2, h3⟩ := ancs_at ops.toList [] i o (by simpa using ho)
    simp only [List.length_nil, Nat.zero_add] at h1 h2 h3
    rw [h1] at hj
    obtain ⟨p, hpm, hjp⟩ := orAll_bit _ _ _ hj
    unfold preds at hpm
    obtain ⟨e, hem, rfl⟩ := List.mem_map.1 hpm
    obtain ⟨he, hbd⟩ := List.mem_filter.1 hem
    have he' : e ∈ o.after := by simpa using he
    have hlt := ordB_pred hb ho he' hbd
    have hl := hp e he' hbd
    rcases hjp with rfl | hjp
    · exact hl
    · rw [h3 _ hlt] at hjp
      have hsz : e.on < ops.size := by
        have : i < ops.size := (Array.getElem?_eq_some_iff.1 ho).1
        omega
      exact ih e.on hlt _ (Array.getElem?_eq_getElem hsz) (hc.2 _ _ (Array.getElem?_eq_getElem hsz) hl) j hjp

theorem ready_pred {L : Array Bool} {i : Nat} (hr : i ∈ Region.ready .any ops L) : ∃ o, ops[i]? = some o ∧ L.getD i true = false ∧ ∀ e ∈ o.after, Region.binds .any e = true → L.getD e.on false = true := by
  obtain ⟨h1, o, h2, h3⟩ := mem_ready.1 hr
  exact ⟨o, h2, h1, h3⟩

theorem getD_two {L : Array Bool} {i : Nat} (hi : i < L.size) (b c : Bool) : L.getD i b = L.getD i c := by
  simp [hi]

theorem closed_set {L : Array Bool} (hc : Closed ops L) {i : Nat} (hr : i ∈ Region.ready .any ops L) : Closed ops (L.setIfInBounds i true) := by
  obtain ⟨o, ho, hu, hp⟩ := ready_pred hr
  have mono : ∀ j, L.getD j false = true → (L.setIfInBounds i true).getD j false = true := by
    intro j hj
    rw [Array.getD_eq_getD_getElem?] at hj ⊢
    rw [Array.getElem?_setIfInBounds]
    split
    · split
      · rfl
      · rename_i h1 h2; subst h1; rw [Array.getElem?_eq_none (by omega)] at hj; cases hj
    · exact hj
  refine ⟨by simpa using hc.1, fun k ok hk hl e he hbd => ?_⟩
  by_cases hik : i = k
  · subst hik
    rw [ho] at hk
    cases hk
    exact mono _ (hp e he hbd)
  · have : L.getD k false = true := by
      rw [Array.getD_eq_getD_getElem?, Array.getElem?_setIfInBounds_ne hik, ← Array.getD_eq_getD_getElem?] at hl
      exact hl
    exact mono _ (hc.2 k ok hk this e he hbd)

/-- As long as something is left, something is ready. -/
theorem ready_of_left (hb : ordB fl ops h = true) {L : Array Bool} (hs : L.size = ops.size) : ∀ (i : Nat), i < ops.size → L.getD i false = false → Region.ready .any ops L ≠ [] := by
  intro i
  induction i using Nat.strongRecOn with
  | _ i ih =>
    intro hi hl
    by_cases hp : ∃ e ∈ (ops[i]).after, Region.binds .any e = true ∧ L.getD e.on false = false
    · obtain ⟨e, he, hbd, hf⟩ := hp
      have hlt := ordB_pred hb (Array.getElem?_eq_getElem hi) he hbd
      exact ih e.on hlt (by omega) hf
    · intro hr
      have : i ∈ Region.ready .any ops L := mem_ready.2 ⟨by rw [getD_two (by omega) true false]; exact hl, ops[i], Array.getElem?_eq_getElem hi, fun e he hbd => by
        cases hq : L.getD e.on false with
        | true => rfl
        | false => exact absurd ⟨e, he, hbd, hq⟩ hp⟩
      rw [hr] at this
      cases this

end

/-! ### the tail: one behind the other -/
theorem tail_any {ro : Option Nat} {fl : Bool} {P : Program} {ops : Array Oper} {h : Nat} (hb : ordB fl ops h = true) {Q : Exit → Act → World → Prop} : ∀ (l : List Oper) (k fuel : Nat) (L : Array Bool) (a : Act) (w : World), h ≤ k → (∀ j, l[j]? = ops[k + j]?) →
    Closed ops L → (∀ i, i < ops.size → L.getD i false = decide (i < k)) → l.length ≤ fuel → wpListIn (Fn ro) 0 P ops Q l a w → wpAnyIn (Fn ro) 0 P .any ops Q fuel L a w := by
  intro l
  induction l with
  | nil =>
    intro k fuel L a w hk hl hc hL hf hw
    have hsz : ops.size ≤ k := by
      rcases Nat.lt_or_ge k ops.size with h' | h'
      · have := hl 0
        simp [h'] at this
      · exact h'
    have hnone : Region.ready .any ops L = [] := by
      cases hr : Region.ready .any ops L with
      | nil => rfl
      | cons i rest =>
        obtain ⟨o, ho, hu, _⟩ := ready_pred (L := L) (i := i) (by rw [hr]; simp)
        have hi : i < ops.size := (Array.getElem?_eq_some_iff.1 ho).1
        rw [getD_two (by rw [hc.1]; exact hi) true false, hL i hi] at hu
        simp at hu
        omega
    cases fuel with
    | zero => exact ⟨hnone, hw⟩
    | succ fuel => exact ⟨fun _ => hw, fun i hi => by rw [hnone] at hi; cases hi⟩
  | cons o l ih =>
    intro k fuel L a w hk hl hc hL hf hw
    have hok : ops[k]? = some o := by simpa using (hl 0).symm
    have hksz : k < ops.size := (Array.getElem?_eq_some_iff.1 hok).1
    cases fuel with
    | zero => simp at hf
    | succ fuel =>
      refine ⟨fun hn => absurd hn (ready_of_left hb hc.1 k hksz (by rw [hL k hksz]; simp)), fun i hi => ?_⟩
      obtain ⟨oi, hoi, hu, hp⟩ := ready_pred hi
      have hisz : i < ops.size := (Array.getElem?_eq_some_iff.1 hoi).1
      rw [getD_two (by rw [hc.1]; exact hisz) true false, hL i hisz] at hu
      have hki : k ≤ i := by simpa using hu
      have hik : i = k := by
        rcases Nat.lt_or_ge k i with hlt | hge
        · rcases ordB_pair hb hoi hok hlt with hbit | ⟨hbad, _⟩ | ⟨_, hbad, _⟩
          · have := closed_anc hb hc i oi hoi hp k hbit
            rw [hL k hksz] at this
            simp at this
          · omega
          · omega
        · omega
      subst hik
      rw [hok] at hoi
      cases hoi
      unfold wpOpIn
      rw [hok]
      simp only
      have next : ∀ a' w', wpListIn (Fn ro) 0 P ops Q l a' w' → wpAnyIn (Fn ro) 0 P .any ops Q fuel (L.setIfInBounds i true) a' w' := fun a' w' h' =>
        ih (i + 1) fuel _ a' w' (by omega) (fun j => by have := hl (j + 1); simp only [List.getElem?_cons_succ] at this; rw [this]; congr 1; omega) (closed_set hc hi) (fun j hj => by
          rw [Array.getD_eq_getD_getElem?, Array.getElem?_setIfInBounds]
          split
          · rename_i e; subst e; rw [if_pos (by rw [hc.1]; exact hj)]; simp
          · rename_i e
            rw [← Array.getD_eq_getD_getElem?, hL j hj]
            have : (j < i) ↔ (j < i + 1) := by omega
            simp [this]) (by simp at hf; omega) h'
      unfold wpListIn at hw
      split
      · rename_i hwd
        rw [if_pos hwd] at hw
        exact Oper.wpIn_mono next hw
      · rename_i hwd
        rw [if_neg hwd] at hw
        exact ⟨hw.1, next _ _ hw.2⟩

/-! ### the head: in whatever order -/
theorem head_any {ro : Option Nat} {fl : Bool} (hro : fl = true → ro = none) {P : Program} {ops : Array Oper} {h : Nat} (hb : ordB fl ops h = true) {Q : Exit → Act → World → Prop} {g : Gh} {β : Bt} {O : Nat → Prop} {H : Hp} {nx : Nat} {n : Nat × Nat × Nat} {f : Nat → Option AV} {rs : List AV}
    (hQ : ∀ c a w, ¬ Q (.panic c) a w) (hlex : Lex P ops H nx n (ops.toList.take h) f rs) (htail : ∀ a w, Cf g β O (foldX (fun _ => true) 0 (ops.toList.take h) rs f) H nx n a w → wpListIn (Fn ro) 0 P ops Q (ops.toList.drop h) a w) :
    ∀ (fuel : Nat) (L : Array Bool) (a : Act) (w : World), Closed ops L → (∀ i, h ≤ i → L.getD i false = false) → ops.size ≤ fuel + (L.toList.countP (· == true)) →
      Cf g β O (foldX (fun i => L.getD i false) 0 (ops.toList.take h) rs f) H nx n a w → wpAnyIn (Fn ro) 0 P .any ops Q fuel L a w := by
  obtain ⟨hlen, hat⟩ := hlex.at 0
  have hle := ordB_le hb
  have hget : ∀ i, i < h → ∀ o, ops[i]? = some o → (ops.toList.take h)[i]? = some o := fun i hi o ho => by
    rw [List.getElem?_take_of_lt hi]; simpa using ho
  intro fuel
  induction fuel with
  | zero =>
    intro L a w hc hhead hcount hcf
    -- everything is listed: so there is no tail
    have hall : ∀ i, i < ops.size → L.getD i false = true := by
      intro i hi
      have h1 : L.toList.countP (· == true) = L.toList.length := by
        have := List.countP_le_length (p := (· == true)) (l := L.toList)
        have h2 : L.toList.length = ops.size := by rw [Array.length_toList, hc.1]
        omega
      rw [List.countP_eq_length] at h1
      have hi' : i < L.size := by rw [hc.1]; exact hi
      have := h1 L[i] (by simp)
      rw [Array.getD_eq_getD_getElem?, Array.getElem?_eq_getElem hi']
      simpa using this
    have hh : h = ops.size := by
      rcases Nat.lt_or_ge h ops.size with h' | h'
      · have h1 := hall h h'
        rw [hhead h (Nat.le_refl _)] at h1
        cases h1
      · omega
    refine tail_any hb [] ops.size 0 L a w (by omega) (fun j => by simp) hc (fun i hi => by rw [hall i hi]; simp [hi]) (by simp) ?_
    have := htail a w (by
      rw [foldX_congr (X := fun _ => true) (Y := fun i => L.getD i false) _ _ _ _ (fun i _ hi => by
        rw [hall i (by simp at hi; omega)])]
      exact hcf)
    rwa [List.drop_of_length_le (by simp; omega)] at this
  | succ fuel ih =>
    intro L a w hc hhead hcount hcf
    by_cases hall : ∀ i, i < h → L.getD i false = true
    · -- the head is done: the tail
      have hL : ∀ i, i < ops.size → L.getD i false = decide (i < h) := by
        intro i hi
        by_cases hih : i < h
        · rw [hall i hih]; simp [hih]
        · rw [hhead i (by omega)]; simp [hih]
      have hcnt : L.toList.countP (· == true) ≤ h := by
        have e : L.toList = (L.toList.take h) ++ (L.toList.drop h) := (List.take_append_drop h _).symm
        rw [e, List.countP_append]
        have h1 : (L.toList.take h).countP (· == true) ≤ h := Nat.le_trans (List.countP_le_length) (by rw [List.length_take]; exact Nat.min_le_left _ _)
        have h2 : (L.toList.drop h).countP (· == true) = 0 := by
          rw [List.countP_eq_zero]
          intro x hx
          obtain ⟨i, hi⟩ := List.mem_iff_getElem?.1 hx
          rw [List.getElem?_drop] at hi
          have h3 := hhead (h + i) (by omega)
          rw [Array.getD_eq_getD_getElem?, ← Array.getElem?_toList, hi] at h3
          simpa using h3
        omega
      refine tail_any hb (ops.toList.drop h) h (fuel + 1) L a w (Nat.le_refl _) (fun j => by rw [List.getElem?_drop]; simp) hc hL (by simp; omega) (htail a w ?_)
      rw [foldX_congr (X := fun _ => true) (Y := fun i => L.getD i false) _ _ _ _ (fun i _ hi => by
        rw [hall i (by simp at hi; omega)])]
      exact hcf
    · have hne : ∃ i, i < h ∧ L.getD i false = false := by
        apply Classical.byContradiction
        intro hcon
        exact hall fun i hi => by
          cases hq : L.getD i false with
          | true => rfl
          | false => exact absurd ⟨i, hi, hq⟩ hcon
      obtain ⟨m, hm, hml⟩ := hne
      -- what a ready operation of the head sees, and what comes of it
      have see : ∀ i o, i < h → ops[i]? = some o → L.getD i true = false → (∀ e ∈ o.after, Region.binds .any e = true → L.getD e.on false = true) → ∃ r, rs[i]? = some r ∧ dOk n o.dst ∧ Yf P ops H nx o (foldX (fun i => L.getD i false) 0 (ops.toList.take h) rs f) r := by
        intro i o hih ho hu hp
        have hisz : i < ops.size := (Array.getElem?_eq_some_iff.1 ho).1
        have huf : L.getD i false = false := by rw [getD_two (by rw [hc.1]; exact hisz) false true]; exact hu
        obtain ⟨r, hr, hd, hy⟩ := hat i o (hget i hih o ho)
        have hsame : ∀ t, t ∈ o.looksAt ops → foldX (fun j => decide (j < 0 + i)) 0 (ops.toList.take h) rs f t = foldX (fun i => L.getD i false) 0 (ops.toList.take h) rs f t := by
          refine fun t ht => ?_
          refine foldX_at _ _ _ _ _ (fun j oj hj hdst => ?_) rfl
          simp only [Nat.zero_add]
          have hjh : j < h := by
            have := (List.getElem?_eq_some_iff.1 hj).1
            simp at this; omega
          have hoj : ops[j]? = some oj := by
            rw [List.getElem?_take_of_lt hjh] at hj; simpa using hj
          rcases Nat.lt_trichotomy j i with hji | hji | hji
          · have e : decide (j < i) = true := by simpa using hji
            rw [e]
            rcases ordB_pair hb ho hoj hji with hbit | ⟨_, hap⟩ | ⟨_, _, _, hap⟩
            · exact (closed_anc hb hc i o ho hp j hbit).symm
            · exact absurd ht ((Oper.apart_spec hap).1 t hdst)
            · exact absurd ht ((Oper.apart_spec hap).1 t hdst)
          · subst hji
            rw [huf]; simp
          · have e : decide (j < i) = false := by simp; omega
            rw [e]
            cases hq : L.getD j false with
            | false => rfl
            | true =>
              rcases ordB_pair hb hoj ho hji with hbit | ⟨_, hap⟩ | ⟨_, _, _, hap⟩
              · have := closed_anc hb hc j oj hoj (hc.2 j oj hoj hq) i hbit
                rw [huf] at this
                cases this
              · exact absurd ht ((Oper.apart_spec hap).2.2 t hdst)
              · exact absurd ht ((Oper.apart_spec hap).2.2 t hdst)
        exact ⟨r, hr, hd, hy.1.congr hsame, fun hfl => (hy.2 hfl).congr hsame⟩
      have next : ∀ i o r, i < h → ops[i]? = some o → i ∈ Region.ready .any ops L → rs[i]? = some r → ∀ a' w', Cf g β O (updF (foldX (fun i => L.getD i false) 0 (ops.toList.take h) rs f) o.dst r) H nx n a' w' → wpAnyIn (Fn ro) 0 P .any ops Q fuel (L.setIfInBounds i true) a' w' := by
        intro i o r hih ho hi hr a' w' hcf'
        have hisz : i < ops.size := (Array.getElem?_eq_some_iff.1 ho).1
        have hu := (mem_ready.1 hi).1
        have huf : L.getD i false = false := by rw [getD_two (by rw [hc.1]; exact hisz) false true]; exact hu
        refine ih _ a' w' (closed_set hc hi) (fun k hk => ?_) ?_ ?_
        · rw [Array.getD_eq_getD_getElem?, Array.getElem?_setIfInBounds_ne (by omega), ← Array.getD_eq_getD_getElem?]
          exact hhead k hk
        · have hi' : i < L.size := by rw [hc.1]; exact hisz
          have hcnt : (L.setIfInBounds i true).toList.countP (· == true) = L.toList.countP (· == true) + 1 := by
            have hli : L.toList[i]'(by simpa using hi') = false := by
              rw [Array.getD_eq_getD_getElem?, Array.getElem?_eq_getElem hi'] at huf
              simpa using huf
            rw [Array.toList_setIfInBounds, List.countP_set (h := by simpa using hi'), hli]
            simp
          rw [hcnt]; omega
        · have hcong : foldX (fun k => (L.setIfInBounds i true).getD k false) 0 (ops.toList.take h) rs f = foldX (fun k => L.getD k false || k == 0 + i) 0 (ops.toList.take h) rs f := by
            refine foldX_congr _ _ _ _ fun k _ hk => ?_
            rw [Array.getD_eq_getD_getElem?, Array.getElem?_setIfInBounds]
            by_cases hik : i = k
            · subst hik
              rw [if_pos rfl, if_pos (by rw [hc.1]; exact hisz)]
              simp
            · rw [if_neg hik, ← Array.getD_eq_getD_getElem?]
              have : (k == 0 + i) = false := by simp; omega
              rw [this, Bool.or_false]
          rw [hcong, foldX_put _ _ 0 i o r f _ (hget i hih o ho) hr (by simpa using huf) (fun j oj hj hij hX d hdo hdj => ?_)]
          · exact hcf'
          · simp only [Nat.zero_add] at hX
            have hjh : j < h := by
              have := (List.getElem?_eq_some_iff.1 hj).1
              simp at this; omega
            have hoj : ops[j]? = some oj := by
              rw [List.getElem?_take_of_lt hjh] at hj; simpa using hj
            rcases ordB_pair hb hoj ho hij with hbit | ⟨_, hap⟩ | ⟨_, _, _, hap⟩
            · have := closed_anc hb hc j oj hoj (hc.2 j oj hoj hX) i hbit
              rw [huf] at this
              cases this
            · exact (Oper.apart_spec hap).2.1 d hdo hdj
            · exact (Oper.apart_spec hap).2.1 d hdo hdj
      by_cases hfloat : fl = true ∧ ∃ i o, i < h ∧ ops[i]? = some o ∧ i ∈ Region.ready .any ops L ∧ flB ops ops.toList ((ancs ops.toList []).getD i 0) i o = true
      · -- one that does not look at memory: first
        obtain ⟨hflt, i, o, hih, ho, hi, hfb⟩ := hfloat
        obtain ⟨o', ho', hu, hp⟩ := ready_pred hi
        rw [ho] at ho'; cases ho'
        obtain ⟨r, hr, hd, hy, hF⟩ := see i o hih ho hu hp
        have hfo := flB_flo hfb
        obtain ⟨u, hrun, hru⟩ := hF hfo β O w a.eval (fun x _ => hcf.ge x)
        have hwant : Region.wanted o (yielded ops a.tmps) = true := by simp [Region.wanted, floB_guard hfo]
        refine wpAnyIn_first (oi := o) (v := u) (by rw [Fn_round]; exact hro hflt) ho (ordB_sel hb hflt) (fun c a w hq => absurd hq (hQ c _ w)) fuel L a w (fun j oj hj hji hun hno => ?_) hi ⟨.inl ⟨hwant, hrun⟩, fun w => floB_about hfo P w _⟩ ?_
        · rcases flB_spec hfb hj hji with h1 | ⟨e, he, hbd, hon⟩ | h1
          · have h2 := closed_anc hb hc i o ho hp j h1
            rw [getD_two (by rw [hc.1]; exact (Array.getElem?_eq_some_iff.1 hj).1) false true, hun] at h2
            cases h2
          · exact absurd hon (hno e he hbd)
          · exact h1
        · exact next i o r hih ho hi hr _ _ (hcf.put hd hru)
      · refine ⟨fun hn => absurd hn (ready_of_left hb hc.1 m (by omega) hml), fun i hi => ?_⟩
        obtain ⟨o, ho, hu, hp⟩ := ready_pred hi
        -- it is one of the head
        have hih : i < h := by
          rcases Nat.lt_or_ge i h with h' | h'
          · exact h'
          · exfalso
            -- all that is left of the head does not look at memory
            have hleft : ∀ m, m < h → L.getD m false = false → ∃ om, ops[m]? = some om ∧ fl = true ∧ flB ops ops.toList ((ancs ops.toList []).getD m 0) m om = true := by
              intro m hm hml
              have hmo := Array.getElem?_eq_getElem (show m < ops.size by omega)
              rcases ordB_pair hb ho hmo (show m < i by omega) with hbit | ⟨hbad, _⟩ | ⟨h1, _, h2, _⟩
              · have := closed_anc hb hc i o ho hp m hbit
                rw [hml] at this
                cases this
              · omega
              · exact ⟨_, hmo, h1, h2⟩
            have hfirst : ∀ m, m < h → L.getD m false = false → ∃ i o, i < h ∧ ops[i]? = some o ∧ i ∈ Region.ready .any ops L ∧ flB ops ops.toList ((ancs ops.toList []).getD i 0) i o = true := by
              intro m
              induction m using Nat.strongRecOn with
              | _ m ihm =>
                intro hm hml
                obtain ⟨om, hom, _, h2⟩ := hleft m hm hml
                by_cases hp' : ∃ e ∈ om.after, Region.binds .any e = true ∧ L.getD e.on false = false
                · obtain ⟨e, he, hbd, hf'⟩ := hp'
                  have hlt := ordB_pred hb hom he hbd
                  exact ihm e.on hlt (by omega) hf'
                · exact ⟨m, om, hm, hom, mem_ready.2 ⟨by rw [getD_two (by rw [hc.1]; omega) true false]; exact hml, om, hom, fun e he hbd => by
                    cases hq : L.getD e.on false with
                    | true => rfl
                    | false => exact absurd ⟨e, he, hbd, hq⟩ hp'⟩, h2⟩
            obtain ⟨_, _, hflt, _⟩ := hleft m hm hml
            exact hfloat ⟨hflt, hfirst m hm hml⟩
        obtain ⟨r, hr, hd, hy, _⟩ := see i o hih ho hu hp
        have hop : opAt ro P ops Q o (wpAnyIn (Fn ro) 0 P .any ops Q fuel (L.setIfInBounds i true)) a w := hy.opAt hcf hd fun a' w' hcf' => next i o r hih ho hi hr a' w' hcf'
        unfold wpOpIn
        rw [ho]
        exact hop

/-- **A region that draws its order**: a head of still operations, in whatever order; a tail, one behind the other. -/
theorem region_draw {ro : Option Nat} {fl : Bool} (hro : fl = true → ro = none) {P : Program} (hm : P.follows .mixedOrders = true) {ops : Array Oper} {h : Nat} (hb : ordB fl ops h = true) {id : Nat} {Q : Exit → Act → World → Prop} {g : Gh} {β : Bt} {O : Nat → Prop} {H : Hp} {nx : Nat} {n : Nat × Nat × Nat} {f : Nat → Option AV} {rs : List AV}
    (hQ : ∀ c a w, ¬ Q (.panic c) a w) (hlex : Lex P ops H nx n (ops.toList.take h) f rs) (htail : ∀ a w, Cf g β O (foldX (fun _ => true) 0 (ops.toList.take h) rs f) H nx n a w → wpListIn (Fn ro) 0 P ops Q (ops.toList.drop h) a w)
    {a : Act} {w : World} (hc : Cf g β O f H nx n a w) : (Code.region id ops true).wpIn (Fn ro) 0 P Q a w := by
  refine wpIn_region_any hm ?_
  have hdrew : Gr w { w with drawn := w.drawn + 1 } := (Below.refl _ _).drew
  have hrep : ∀ i, (Array.replicate ops.size false).getD i false = false := fun i => by
    rw [Array.getD_eq_getD_getElem?]
    simp only [Array.getElem?_replicate]
    split <;> rfl
  refine head_any hro hb hQ hlex htail ops.size _ a _ ⟨by simp, fun i o _ hl => by rw [hrep] at hl; cases hl⟩ (fun i _ => hrep i) (by omega) ?_
  rw [foldX_none _ _ _ _ (fun i _ _ => hrep i)]
  exact hc.gr hdrew

end Go.Ab

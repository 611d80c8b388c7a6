/- Parts of the proof, put together by a program. -/
import Derived.Test.YtabmhfmglhjmjaaGreatDoorXac
import Derived.Test.YtabmhfmglhjmjaaGreatDoorXae
import Derived.Test.YtabmhfmglhjmjaaGreatDoorXaf
set_option linter.unusedSimpArgs false
set_option linter.unusedVariables false
set_option linter.unusedSectionVars false
namespace Go.Ab
variable [Dr]
open Go.RowKit
end Go.Ab
set_option linter.unusedSimpArgs false
set_option linter.unusedVariables false
set_option linter.unusedSectionVars false
namespace Go.Ab
variable [Dr]
open Go.RowKit
section
variable {E : Ev} {o : Oper} {ge : Operand → AV} {H : Hp} {nx : Nat} {K : AV → Prop}
end
inductive OT where
  | nil
  | cons (i : Nat) (sub rest : OT)
def OT.idx : OT → List Nat
  | .nil => []
  | .cons i _ rest => i :: rest.idx
def OT.isNil : OT → Bool
  | .nil => true
  | .cons _ _ _ => false
def kidsB (ops : Array Oper) : OT → Array Bool → Bool
  | .nil, _ => true
  | .cons i sub rest, L => (sub.idx == Region.ready .any ops (L.setIfInBounds i true)) && kidsB ops sub (L.setIfInBounds i true) && kidsB ops rest L
def wpK (E : Ev) (mu : List Nat) (ops : Array Oper) : OT → St → (St → Prop) → Prop
  | .nil, _, _ => True
  | .cons i sub rest, σ, K => (match ops[i]? with
    | some o => wpA E mu ops [o] σ fun σ' => bif sub.isNil then K σ' else wpK E mu ops sub σ' K
    | none => False) ∧ wpK E mu ops rest σ K
theorem wpK_nil {E : Ev} {mu : List Nat} {ops : Array Oper} {σ : St} {K : St → Prop} : wpK E mu ops .nil σ K := True.intro
theorem wpK_cons {E : Ev} {mu : List Nat} {ops : Array Oper} {σ : St} {K : St → Prop} {i : Nat} {sub rest : OT} {o : Oper} (ho : ops[i]? = some o)
    (h1 : wpA E mu ops [o] σ fun σ' => bif sub.isNil then K σ' else wpK E mu ops sub σ' K) (h2 : wpK E mu ops rest σ K) : wpK E mu ops (.cons i sub rest) σ K := ⟨by rw [ho]; exact h1, h2⟩
section
variable {E : Ev} {mu : List Nat} {ops : Array Oper} {Q : Exit → Act → World → Prop}
theorem kids_get {K : St → Prop} {i : Nat} {L : Array Bool} {σ : St} : ∀ {t : OT}, kidsB ops t L = true → wpK E mu ops t σ K → i ∈ t.idx →
    ∃ sub o, ops[i]? = some o ∧ wpA E mu ops [o] σ (fun σ' => bif sub.isNil then K σ' else wpK E mu ops sub σ' K) ∧ sub.idx = Region.ready .any ops (L.setIfInBounds i true) ∧ kidsB ops sub (L.setIfInBounds i true) = true
  | .cons j sub rest, hb, hw, hi => by
    simp only [kidsB, Bool.and_eq_true, beq_iff_eq] at hb
    obtain ⟨⟨b1, b2⟩, b3⟩ := hb
    obtain ⟨w1, w2⟩ := hw
    rcases List.mem_cons.1 hi with e | e
    · subst e
      cases ho : ops[i]? with
      | none => rw [ho] at w1; exact w1.elim
      | some o => rw [ho] at w1; exact ⟨sub, o, rfl, w1, b1, b2⟩
    · exact kids_get b3 w2 e
theorem count_set {L : Array Bool} {i : Nat} (hi : i < L.size) (hu : L.getD i true = false) : (L.setIfInBounds i true).toList.countP (· == true) = L.toList.countP (· == true) + 1 := by
  have hli : L.toList[i]'(by simpa using hi) = false := by
    rw [Array.getD_eq_getD_getElem?, Array.getElem?_eq_getElem hi] at hu
    simpa using hu
  rw [Array.toList_setIfInBounds, List.countP_set (h := by simpa using hi), hli]
  simp
theorem none_left {L : Array Bool} (hs : L.size = ops.size) (h : ops.size ≤ L.toList.countP (· == true)) : Region.ready .any ops L = [] := by
  cases hr : Region.ready .any ops L with
  | nil => rfl
  | cons i rest =>
    obtain ⟨o, ho, hu, _⟩ := ready_pred (L := L) (i := i) (by rw [hr]; simp)
    have hi : i < L.size := by rw [hs]; exact (Array.getElem?_eq_some_iff.1 ho).1
    have h1 : L.toList.countP (· == true) = L.toList.length := by
      have := List.countP_le_length (p := (· == true)) (l := L.toList)
      have h2 : L.toList.length = ops.size := by rw [Array.length_toList, hs]
      omega
    rw [List.countP_eq_length] at h1
    have := h1 L[i] (by simp)
    rw [Array.getD_eq_getD_getElem?, Array.getElem?_eq_getElem hi] at hu
    simp at hu this
    rw [hu] at this
    cases this
theorem tree_any (hE : EvOk E) (hY : YOk E) {K : St → Prop} : ∀ (fuel : Nat) (L : Array Bool) (t : OT) (σ : St) (g : Gh) (β : Bt) (O : Nat → Prop) (a : Act) (w : World), Fit E g σ → Cn g β O σ a w → t.idx = Region.ready .any ops L → kidsB ops t L = true → L.size = ops.size →
    ops.size ≤ fuel + L.toList.countP (· == true) → (bif t.isNil then K σ else wpK E mu ops t σ K) → (∀ a' w', NxtP E g K a' w' → Q .normal a' w') → wpAnyIn (Fn E.ro) 0 E.P .any ops Q fuel L a w := by
  intro fuel
  have fin : ∀ (t : OT) (L : Array Bool) (σ : St) (g : Gh) (β : Bt) (O : Nat → Prop) (a : Act) (w : World), Region.ready .any ops L = [] → t.idx = Region.ready .any ops L → Fit E g σ → Cn g β O σ a w → (bif t.isNil then K σ else wpK E mu ops t σ K) → (∀ a' w', NxtP E g K a' w' → Q .normal a' w') → Q .normal a w := by
    intro t L σ g β O a w hr hidx hf hc hw hK
    rw [hr] at hidx
    cases t with
    | nil => exact hK a w ⟨g, β, O, σ, Le.refl _ _, hf, hw, hc⟩
    | cons i s r => cases hidx
  induction fuel with
  | zero =>
    intro L t σ g β O a w hf hc hidx hb hs hcount hw hK
    have hr := none_left hs (by omega)
    exact ⟨hr, fin t L σ g β O a w hr hidx hf hc hw hK⟩
  | succ fuel ih =>
    intro L t σ g β O a w hf hc hidx hb hs hcount hw hK
    refine ⟨fun hr => fin t L σ g β O a w hr hidx hf hc hw hK, fun i hi => ?_⟩
    have hw' : wpK E mu ops t σ K := by
      cases t with
      | nil => rw [← hidx] at hi; cases hi
      | cons _ _ _ => exact hw
    obtain ⟨sub, o, ho, h1, h2, h3⟩ := kids_get hb hw' (by rw [hidx]; exact hi)
    have h4 := opS_ok (Q := Q) hE hY hf hc (show opS E mu ops o σ _ from h1)
    have h5 : wpOpIn (Fn E.ro) 0 E.P ops Q i (NxtP E g fun σ' => wpA E mu ops [] σ' fun σ' => bif sub.isNil then K σ' else wpK E mu ops sub σ' K) a w := by
      unfold wpOpIn
      rw [ho]
      exact h4
    have hisz : i < L.size := by rw [hs]; exact (Array.getElem?_eq_some_iff.1 ho).1
    have hu := (mem_ready.1 hi).1
    refine wpOpIn_mono (fun a' w' ⟨g', β', O', σ', hl, hf', h6, hc'⟩ => ?_) h5
    refine ih _ sub σ' g' β' O' a' w' hf' hc' h2 h3 (by simpa using hs) (by rw [count_set hisz hu]; omega) h6 fun a'' w'' ⟨g'', β'', O'', σ'', hl', h7⟩ => hK a'' w'' ⟨g'', β'', O'', σ'', hl.trans hl', h7⟩
end
end Go.Ab
set_option linter.unusedSimpArgs false
set_option linter.unusedVariables false
set_option linter.unusedSectionVars false
namespace Go.Ab
variable [Dr]
open Go.RowKit
def ordG (lt : Nat) (ops : Array Oper) (h : Nat) : Bool :=
  let l := ops.toList
  let ms := ancs l []
  (decide (h ≤ ops.size) && noSel l && decide (lt < h) &&
  (List.range h).all fun k => match l[k]? with
    | none => true
    | some o => (preds o).all fun p => p != lt) &&
  (List.range ops.size).all fun i =>
    match l[i]? with
    | none => true
    | some o =>
      (preds o).all (fun p => decide (p < i)) &&
      (List.range i).all fun j =>
        match l[j]? with
        | none => true
        | some o' => (ms.getD i 0).testBit j || (decide (i < h) && o'.apart ops o) || (decide (j < h) && flB ops l (ms.getD j 0) j o' && o'.apart ops o) || (j == lt && decide (h ≤ i) && o'.apart ops o)
section
variable {lt : Nat} {ops : Array Oper} {h : Nat}
theorem ordG_le (hb : ordG lt ops h = true) : h ≤ ops.size := by
  simp only [ordG, Bool.and_eq_true, decide_eq_true_eq] at hb
  exact hb.1.1.1.1
theorem ordG_lt (hb : ordG lt ops h = true) : lt < h := by
  simp only [ordG, Bool.and_eq_true, decide_eq_true_eq] at hb
  exact hb.1.1.2
theorem ordG_sel (hb : ordG lt ops h = true) (j : Nat) (o : Oper) (cs : Array SelectCase) (b : Bool) (ho : ops[j]? = some o) : o.op ≠ .select cs b := by
  simp only [ordG, Bool.and_eq_true, decide_eq_true_eq] at hb
  have h1 := hb.1.1.1.2
  unfold noSel at h1
  rw [List.all_eq_true] at h1
  have hm : o ∈ ops.toList := by
    have := Array.mem_of_getElem? ho
    simpa using this
  intro e
  have := h1 o hm
  rw [e] at this
  cases this
theorem ordG_no (hb : ordG lt ops h = true) {k : Nat} {o : Oper} (hk : k < h) (ho : ops[k]? = some o) {e : Edge} (he : e ∈ o.after) (hbd : Region.binds .any e = true) : e.on ≠ lt := by
  simp only [ordG, Bool.and_eq_true, List.all_eq_true, List.mem_range] at hb
  have h1 := hb.1.2 k hk
  have ho' : ops.toList[k]? = some o := by simpa using ho
  rw [ho'] at h1
  simp only [List.all_eq_true] at h1
  have := h1 e.on (by unfold preds; exact List.mem_map.2 ⟨e, List.mem_filter.2 ⟨by simpa using he, hbd⟩, rfl⟩)
  simpa using this
theorem ordG_pred (hb : ordG lt ops h = true) {i : Nat} {o : Oper} (ho : ops[i]? = some o) {e : Edge} (he : e ∈ o.after) (hbd : Region.binds .any e = true) : e.on < i := by
  simp only [ordG, Bool.and_eq_true, List.all_eq_true, List.mem_range] at hb
  have hi : i < ops.size := (Array.getElem?_eq_some_iff.1 ho).1
  have h1 := hb.2 i hi
  have ho' : ops.toList[i]? = some o := by simpa using ho
  rw [ho'] at h1
  simp only [Bool.and_eq_true, List.all_eq_true] at h1
  have := h1.1 e.on (by unfold preds; exact List.mem_map.2 ⟨e, List.mem_filter.2 ⟨by simpa using he, hbd⟩, rfl⟩)
  simpa using this
theorem ordG_pair (hb : ordG lt ops h = true) {i j : Nat} {o o' : Oper} (ho : ops[i]? = some o) (ho' : ops[j]? = some o') (hji : j < i) :
    ((ancs ops.toList []).getD i 0).testBit j = true ∨ (i < h ∧ o'.apart ops o = true) ∨ (j < h ∧ flB ops ops.toList ((ancs ops.toList []).getD j 0) j o' = true ∧ o'.apart ops o = true) ∨ (j = lt ∧ h ≤ i ∧ o'.apart ops o = true) := by
  simp only [ordG, Bool.and_eq_true, List.all_eq_true, List.mem_range] at hb
  have hi : i < ops.size := (Array.getElem?_eq_some_iff.1 ho).1
  have h1 := hb.2 i hi
  have ho1 : ops.toList[i]? = some o := by simpa using ho
  have ho2 : ops.toList[j]? = some o' := by simpa using ho'
  rw [ho1] at h1
  simp only [Bool.and_eq_true, List.all_eq_true, List.mem_range] at h1
  have h2 := h1.2 j hji
  rw [ho2] at h2
  simp only [Bool.or_eq_true, Bool.and_eq_true, decide_eq_true_eq, beq_iff_eq] at h2
  rcases h2 with ((h2 | h2) | h2) | h2
  · exact .inl h2
  · exact .inr (.inl h2)
  · exact .inr (.inr (.inl ⟨h2.1.1, h2.1.2, h2.2⟩))
  · exact .inr (.inr (.inr ⟨h2.1.1, h2.1.2, h2.2⟩))
theorem closed_ancG (hb : ordG lt ops h = true) {L : Array Bool} (hc : Closed ops L) : ∀ (i : Nat) (o : Oper), ops[i]? = some o → (∀ e ∈ o.after, Region.binds .any e = true → L.getD e.on false = true) →
    ∀ j, ((ancs ops.toList []).getD i 0).testBit j = true → L.getD j false = true := by
  intro i
  induction i using Nat.strongRecOn with
  | _ i ih =>
    intro o ho hp j hj
    obtain ⟨ms', h1, h2, h3⟩ := ancs_at ops.toList [] i o (by simpa using ho)
    simp only [List.length_nil, Nat.zero_add] at h1 h2 h3
    rw [h1] at hj
    obtain ⟨p, hpm, hjp⟩ := orAll_bit _ _ _ hj
    unfold preds at hpm
    obtain ⟨e, hem, rfl⟩ := List.mem_map.1 hpm
    obtain ⟨he, hbd⟩ := List.mem_filter.1 hem
    have he' : e ∈ o.after := by simpa using he
    have hlt := ordG_pred hb ho he' hbd
    have hl := hp e he' hbd
    rcases hjp with rfl | hjp
    · exact hl
    · rw [h3 _ hlt] at hjp
      have hsz : e.on < ops.size := by
        have : i < ops.size := (Array.getElem?_eq_some_iff.1 ho).1
        omega
      exact ih e.on hlt _ (Array.getElem?_eq_getElem hsz) (hc.2 _ _ (Array.getElem?_eq_getElem hsz) hl) j hjp
theorem ready_of_leftG (hb : ordG lt ops h = true) {L : Array Bool} (hs : L.size = ops.size) : ∀ (i : Nat), i < ops.size → L.getD i false = false → Region.ready .any ops L ≠ [] := by
  intro i
  induction i using Nat.strongRecOn with
  | _ i ih =>
    intro hi hl
    by_cases hp : ∃ e ∈ (ops[i]).after, Region.binds .any e = true ∧ L.getD e.on false = false
    · obtain ⟨e, he, hbd, hf⟩ := hp
      have hlt := ordG_pred hb (Array.getElem?_eq_getElem hi) he hbd
      exact ih e.on hlt (by omega) hf
    · intro hr
      have : i ∈ Region.ready .any ops L := mem_ready.2 ⟨by rw [getD_two (by omega) true false]; exact hl, ops[i], Array.getElem?_eq_getElem hi, fun e he hbd => by
        cases hq : L.getD e.on false with
        | true => rfl
        | false => exact absurd ⟨e, he, hbd, hq⟩ hp⟩
      rw [hr] at this
      cases this
end
theorem tail_anyG {ro : Option Nat} {lt : Nat} {P : Program} {ops : Array Oper} {h : Nat} (hb : ordG lt ops h = true) {Q : Exit → Act → World → Prop} : ∀ (l : List Oper) (k fuel : Nat) (L : Array Bool) (a : Act) (w : World), h ≤ k → (∀ j, l[j]? = ops[k + j]?) →
    Closed ops L → (∀ i, i < ops.size → L.getD i false = decide (i < k)) → l.length ≤ fuel → wpListIn (Fn ro) 0 P ops Q l a w → wpAnyIn (Fn ro) 0 P .any ops Q fuel L a w := by
  intro l
  induction l with
  | nil =>
    intro k fuel L a w hk hl hc hL hf hw
    have hsz : ops.size ≤ k := by
      rcases Nat.lt_or_ge k ops.size with h' | h'
      · have := hl 0
        simp [h'] at this
      · exact h'
    have hnone : Region.ready .any ops L = [] := by
      cases hr : Region.ready .any ops L with
      | nil => rfl
      | cons i rest =>
        obtain ⟨o, ho, hu, _⟩ := ready_pred (L := L) (i := i) (by rw [hr]; simp)
        have hi : i < ops.size := (Array.getElem?_eq_some_iff.1 ho).1
        rw [getD_two (by rw [hc.1]; exact hi) true false, hL i hi] at hu
        simp at hu
        omega
    cases fuel with
    | zero => exact ⟨hnone, hw⟩
    | succ fuel => exact ⟨fun _ => hw, fun i hi => by rw [hnone] at hi; cases hi⟩
  | cons o l ih =>
    intro k fuel L a w hk hl hc hL hf hw
    have hok : ops[k]? = some o := by simpa using (hl 0).symm
    have hksz : k < ops.size := (Array.getElem?_eq_some_iff.1 hok).1
    cases fuel with
    | zero => simp at hf
    | succ fuel =>
      refine ⟨fun hn => absurd hn (ready_of_leftG hb hc.1 k hksz (by rw [hL k hksz]; simp)), fun i hi => ?_⟩
      obtain ⟨oi, hoi, hu, hp⟩ := ready_pred hi
      have hisz : i < ops.size := (Array.getElem?_eq_some_iff.1 hoi).1
      rw [getD_two (by rw [hc.1]; exact hisz) true false, hL i hisz] at hu
      have hki : k ≤ i := by simpa using hu
      have hik : i = k := by
        rcases Nat.lt_or_ge k i with hlt | hge
        · rcases ordG_pair hb hoi hok hlt with hbit | ⟨hbad, _⟩ | ⟨hbad, _⟩ | ⟨hbad, _⟩
          · have := closed_ancG hb hc i oi hoi hp k hbit
            rw [hL k hksz] at this
            simp at this
          · omega
          · omega
          · have := ordG_lt hb; omega
        · omega
      subst hik
      rw [hok] at hoi
      cases hoi
      unfold wpOpIn
      rw [hok]
      simp only
      have next : ∀ a' w', wpListIn (Fn ro) 0 P ops Q l a' w' → wpAnyIn (Fn ro) 0 P .any ops Q fuel (L.setIfInBounds i true) a' w' := fun a' w' h' =>
        ih (i + 1) fuel _ a' w' (by omega) (fun j => by have := hl (j + 1); simp only [List.getElem?_cons_succ] at this; rw [this]; congr 1; omega) (closed_set hc hi) (fun j hj => by
          rw [Array.getD_eq_getD_getElem?, Array.getElem?_setIfInBounds]
          split
          · rename_i e; subst e; rw [if_pos (by rw [hc.1]; exact hj)]; simp
          · rename_i e
            rw [← Array.getD_eq_getD_getElem?, hL j hj]
            have : (j < i) ↔ (j < i + 1) := by omega
            simp [this]) (by simp at hf; omega) h'
      unfold wpListIn at hw
      split
      · rename_i hwd
        rw [if_pos hwd] at hw
        exact Oper.wpIn_mono next hw
      · rename_i hwd
        rw [if_neg hwd] at hw
        exact ⟨hw.1, next _ _ hw.2⟩
theorem head_late {ro : Option Nat} {lt : Nat} (hro : ro = none) {P : Program} {ops : Array Oper} {h : Nat} (hb : ordG lt ops h = true) {Q : Exit → Act → World → Prop} {g : Gh} {β : Bt} {O : Nat → Prop} {H : Hp} {nx : Nat} {n : Nat × Nat × Nat} {f : Nat → Option AV} {rs : List AV}
    (hQ : ∀ c a w, ¬ Q (.panic c) a w) (hlex : Lex P ops H nx n (ops.toList.take h) f rs) (htail : ∀ a w, Cf g β O (foldX (fun _ => true) 0 (ops.toList.take h) rs f) H nx n a w → wpListIn (Fn ro) 0 P ops Q (ops.toList.drop h) a w)
    (hlate : ∀ (fuel : Nat) (L : Array Bool) (a : Act) (w : World), L.size = ops.size → (∀ i, i < ops.size → L.getD i false = decide (i < h ∧ i ≠ lt)) → ops.size ≤ fuel + (L.toList.countP (· == true)) → Cf g β O (foldX (fun i => i != lt) 0 (ops.toList.take h) rs f) H nx n a w → wpAnyIn (Fn ro) 0 P .any ops Q fuel L a w) :
    ∀ (fuel : Nat) (L : Array Bool) (a : Act) (w : World), Closed ops L → (∀ i, h ≤ i → L.getD i false = false) → ops.size ≤ fuel + (L.toList.countP (· == true)) →
      Cf g β O (foldX (fun i => L.getD i false) 0 (ops.toList.take h) rs f) H nx n a w → wpAnyIn (Fn ro) 0 P .any ops Q fuel L a w := by
  obtain ⟨hlen, hat⟩ := hlex.at 0
  have hle := ordG_le hb
  have hget : ∀ i, i < h → ∀ o, ops[i]? = some o → (ops.toList.take h)[i]? = some o := fun i hi o ho => by
    rw [List.getElem?_take_of_lt hi]; simpa using ho
  intro fuel
  induction fuel with
  | zero =>
    intro L a w hc hhead hcount hcf
    have hall : ∀ i, i < ops.size → L.getD i false = true := by
      intro i hi
      have h1 : L.toList.countP (· == true) = L.toList.length := by
        have := List.countP_le_length (p := (· == true)) (l := L.toList)
        have h2 : L.toList.length = ops.size := by rw [Array.length_toList, hc.1]
        omega
      rw [List.countP_eq_length] at h1
      have hi' : i < L.size := by rw [hc.1]; exact hi
      have := h1 L[i] (by simp)
      rw [Array.getD_eq_getD_getElem?, Array.getElem?_eq_getElem hi']
      simpa using this
    have hh : h = ops.size := by
      rcases Nat.lt_or_ge h ops.size with h' | h'
      · have h1 := hall h h'
        rw [hhead h (Nat.le_refl _)] at h1
        cases h1
      · omega
    refine tail_anyG hb [] ops.size 0 L a w (by omega) (fun j => by simp) hc (fun i hi => by rw [hall i hi]; simp [hi]) (by simp) ?_
    have := htail a w (by
      rw [foldX_congr (X := fun _ => true) (Y := fun i => L.getD i false) _ _ _ _ (fun i _ hi => by
        rw [hall i (by simp at hi; omega)])]
      exact hcf)
    rwa [List.drop_of_length_le (by simp; omega)] at this
  | succ fuel ih =>
    intro L a w hc hhead hcount hcf
    by_cases hall : ∀ i, i < h → L.getD i false = true
    · -- the head is done: the tail
      have hL : ∀ i, i < ops.size → L.getD i false = decide (i < h) := by
        intro i hi
        by_cases hih : i < h
        · rw [hall i hih]; simp [hih]
        · rw [hhead i (by omega)]; simp [hih]
      have hcnt : L.toList.countP (· == true) ≤ h := by
        have e : L.toList = (L.toList.take h) ++ (L.toList.drop h) := (List.take_append_drop h _).symm
        rw [e, List.countP_append]
        have h1 : (L.toList.take h).countP (· == true) ≤ h := Nat.le_trans (List.countP_le_length) (by rw [List.length_take]; exact Nat.min_le_left _ _)
        have h2 : (L.toList.drop h).countP (· == true) = 0 := by
          rw [List.countP_eq_zero]
          intro x hx
          obtain ⟨i, hi⟩ := List.mem_iff_getElem?.1 hx
          rw [List.getElem?_drop] at hi
          have h3 := hhead (h + i) (by omega)
          rw [Array.getD_eq_getD_getElem?, ← Array.getElem?_toList, hi] at h3
          simpa using h3
        omega
      refine tail_anyG hb (ops.toList.drop h) h (fuel + 1) L a w (Nat.le_refl _) (fun j => by rw [List.getElem?_drop]; simp) hc hL (by simp; omega) (htail a w ?_)
      rw [foldX_congr (X := fun _ => true) (Y := fun i => L.getD i false) _ _ _ _ (fun i _ hi => by
        rw [hall i (by simp at hi; omega)])]
      exact hcf
    · have hne : ∃ i, i < h ∧ L.getD i false = false := by
        apply Classical.byContradiction
        intro hcon
        exact hall fun i hi => by
          cases hq : L.getD i false with
          | true => rfl
          | false => exact absurd ⟨i, hi, hq⟩ hcon
      obtain ⟨m, hm, hml⟩ := hne
      have see : ∀ i o, i < h → ops[i]? = some o → L.getD i true = false → (∀ e ∈ o.after, Region.binds .any e = true → L.getD e.on false = true) → ∃ r, rs[i]? = some r ∧ dOk n o.dst ∧ Yf P ops H nx o (foldX (fun i => L.getD i false) 0 (ops.toList.take h) rs f) r := by
        intro i o hih ho hu hp
        have hisz : i < ops.size := (Array.getElem?_eq_some_iff.1 ho).1
        have huf : L.getD i false = false := by rw [getD_two (by rw [hc.1]; exact hisz) false true]; exact hu
        obtain ⟨r, hr, hd, hy⟩ := hat i o (hget i hih o ho)
        have hsame : ∀ t, t ∈ o.looksAt ops → foldX (fun j => decide (j < 0 + i)) 0 (ops.toList.take h) rs f t = foldX (fun i => L.getD i false) 0 (ops.toList.take h) rs f t := by
          refine fun t ht => ?_
          refine foldX_at _ _ _ _ _ (fun j oj hj hdst => ?_) rfl
          simp only [Nat.zero_add]
          have hjh : j < h := by
            have := (List.getElem?_eq_some_iff.1 hj).1
            simp at this; omega
          have hoj : ops[j]? = some oj := by
            rw [List.getElem?_take_of_lt hjh] at hj; simpa using hj
          rcases Nat.lt_trichotomy j i with hji | hji | hji
          · have e : decide (j < i) = true := by simpa using hji
            rw [e]
            rcases ordG_pair hb ho hoj hji with hbit | ⟨_, hap⟩ | ⟨_, _, hap⟩ | ⟨_, hbad, _⟩
            · exact (closed_ancG hb hc i o ho hp j hbit).symm
            · exact absurd ht ((Oper.apart_spec hap).1 t hdst)
            · exact absurd ht ((Oper.apart_spec hap).1 t hdst)
            · omega
          · subst hji
            rw [huf]; simp
          · have e : decide (j < i) = false := by simp; omega
            rw [e]
            cases hq : L.getD j false with
            | false => rfl
            | true =>
              rcases ordG_pair hb hoj ho hji with hbit | ⟨_, hap⟩ | ⟨_, _, hap⟩ | ⟨_, hbad, _⟩
              · have := closed_ancG hb hc j oj hoj (hc.2 j oj hoj hq) i hbit
                rw [huf] at this
                cases this
              · exact absurd ht ((Oper.apart_spec hap).2.2 t hdst)
              · exact absurd ht ((Oper.apart_spec hap).2.2 t hdst)
              · omega
        exact ⟨r, hr, hd, hy.1.congr hsame, fun hfl => (hy.2 hfl).congr hsame⟩
      have next : ∀ i o r, i < h → ops[i]? = some o → i ∈ Region.ready .any ops L → rs[i]? = some r → ∀ a' w', Cf g β O (updF (foldX (fun i => L.getD i false) 0 (ops.toList.take h) rs f) o.dst r) H nx n a' w' → wpAnyIn (Fn ro) 0 P .any ops Q fuel (L.setIfInBounds i true) a' w' := by
        intro i o r hih ho hi hr a' w' hcf'
        have hisz : i < ops.size := (Array.getElem?_eq_some_iff.1 ho).1
        have hu := (mem_ready.1 hi).1
        have huf : L.getD i false = false := by rw [getD_two (by rw [hc.1]; exact hisz) false true]; exact hu
        refine ih _ a' w' (closed_set hc hi) (fun k hk => ?_) ?_ ?_
        · rw [Array.getD_eq_getD_getElem?, Array.getElem?_setIfInBounds_ne (by omega), ← Array.getD_eq_getD_getElem?]
          exact hhead k hk
        · have hi' : i < L.size := by rw [hc.1]; exact hisz
          have hcnt : (L.setIfInBounds i true).toList.countP (· == true) = L.toList.countP (· == true) + 1 := by
            have hli : L.toList[i]'(by simpa using hi') = false := by
              rw [Array.getD_eq_getD_getElem?, Array.getElem?_eq_getElem hi'] at huf
              simpa using huf
            rw [Array.toList_setIfInBounds, List.countP_set (h := by simpa using hi'), hli]
            simp
          rw [hcnt]; omega
        · have hcong : foldX (fun k => (L.setIfInBounds i true).getD k false) 0 (ops.toList.take h) rs f = foldX (fun k => L.getD k false || k == 0 + i) 0 (ops.toList.take h) rs f := by
            refine foldX_congr _ _ _ _ fun k _ hk => ?_
            rw [Array.getD_eq_getD_getElem?, Array.getElem?_setIfInBounds]
            by_cases hik : i = k
            · subst hik
              rw [if_pos rfl, if_pos (by rw [hc.1]; exact hisz)]
              simp
            · rw [if_neg hik, ← Array.getD_eq_getD_getElem?]
              have : (k == 0 + i) = false := by simp; omega
              rw [this, Bool.or_false]
          rw [hcong, foldX_put _ _ 0 i o r f _ (hget i hih o ho) hr (by simpa using huf) (fun j oj hj hij hX d hdo hdj => ?_)]
          · exact hcf'
          · simp only [Nat.zero_add] at hX
            have hjh : j < h := by
              have := (List.getElem?_eq_some_iff.1 hj).1
              simp at this; omega
            have hoj : ops[j]? = some oj := by
              rw [List.getElem?_take_of_lt hjh] at hj; simpa using hj
            rcases ordG_pair hb hoj ho hij with hbit | ⟨_, hap⟩ | ⟨_, _, hap⟩ | ⟨_, hbad, _⟩
            · have := closed_ancG hb hc j oj hoj (hc.2 j oj hoj hX) i hbit
              rw [huf] at this
              cases this
            · exact (Oper.apart_spec hap).2.1 d hdo hdj
            · exact (Oper.apart_spec hap).2.1 d hdo hdj
            · omega
      by_cases hfloat : ∃ i o, i < h ∧ ops[i]? = some o ∧ i ∈ Region.ready .any ops L ∧ flB ops ops.toList ((ancs ops.toList []).getD i 0) i o = true
      · -- one that does not look at memory: first
        obtain ⟨i, o, hih, ho, hi, hfb⟩ := hfloat
        obtain ⟨o', ho', hu, hp⟩ := ready_pred hi
        rw [ho] at ho'; cases ho'
        obtain ⟨r, hr, hd, hy, hF⟩ := see i o hih ho hu hp
        have hfo := flB_flo hfb
        obtain ⟨u, hrun, hru⟩ := hF hfo β O w a.eval (fun x _ => hcf.ge x)
        have hwant : Region.wanted o (yielded ops a.tmps) = true := by simp [Region.wanted, floB_guard hfo]
        refine wpAnyIn_first (oi := o) (v := u) (by rw [Fn_round]; exact hro) ho (ordG_sel hb) (fun c a w hq => absurd hq (hQ c _ w)) fuel L a w (fun j oj hj hji hun hno => ?_) hi ⟨.inl ⟨hwant, hrun⟩, fun w => floB_about hfo P w _⟩ ?_
        · rcases flB_spec hfb hj hji with h1 | ⟨e, he, hbd, hon⟩ | h1
          · have h2 := closed_ancG hb hc i o ho hp j h1
            rw [getD_two (by rw [hc.1]; exact (Array.getElem?_eq_some_iff.1 hj).1) false true, hun] at h2
            cases h2
          · exact absurd hon (hno e he hbd)
          · exact h1
        · exact next i o r hih ho hi hr _ _ (hcf.put hd hru)
      · by_cases hdone : ∀ k, k < h → k ≠ lt → L.getD k false = true
        · -- all but the late one: it may come behind what is not of the head
          have hml' : m = lt := Classical.byContradiction fun hne => by
            rw [hdone m hm hne] at hml; cases hml
          subst hml'
          refine hlate (fuel + 1) L a w hc.1 (fun i hi => ?_) hcount ?_
          · by_cases hih : i < h
            · by_cases him : i = m
              · subst him; rw [hml]; simp
              · rw [hdone i hih him]; simp [hih, him]
            · rw [hhead i (by omega)]; simp [hih]
          · rw [foldX_congr (X := fun i => i != m) (Y := fun i => L.getD i false) _ _ _ _ (fun i _ hi => ?_)]
            · exact hcf
            · have hih : i < h := by simp at hi; omega
              by_cases him : i = m
              · subst him; rw [hml]; simp
              · rw [hdone i hih him]; simpa using him
        · refine ⟨fun hn => absurd hn (ready_of_leftG hb hc.1 m (by omega) hml), fun i hi => ?_⟩
          obtain ⟨o, ho, hu, hp⟩ := ready_pred hi
          have hih : i < h := by
            rcases Nat.lt_or_ge i h with h' | h'
            · exact h'
            · exfalso
              obtain ⟨k0, hk0⟩ : ∃ k, k < h ∧ k ≠ lt ∧ L.getD k false = false := Classical.byContradiction fun hcon => hdone fun k hk hne => by
                cases hq : L.getD k false with
                | true => rfl
                | false => exact absurd ⟨k, hk, hne, hq⟩ hcon
              have hleft : ∀ m, m < h → m ≠ lt → L.getD m false = false → ∃ om, ops[m]? = some om ∧ flB ops ops.toList ((ancs ops.toList []).getD m 0) m om = true := by
                intro m hm hmt hml
                have hmo := Array.getElem?_eq_getElem (show m < ops.size by omega)
                rcases ordG_pair hb ho hmo (show m < i by omega) with hbit | ⟨hbad, _⟩ | ⟨_, h2, _⟩ | ⟨hbad, _⟩
                · have := closed_ancG hb hc i o ho hp m hbit
                  rw [hml] at this
                  cases this
                · omega
                · exact ⟨_, hmo, h2⟩
                · exact absurd hbad hmt
              have hfirst : ∀ m, m < h → m ≠ lt → L.getD m false = false → ∃ i o, i < h ∧ ops[i]? = some o ∧ i ∈ Region.ready .any ops L ∧ flB ops ops.toList ((ancs ops.toList []).getD i 0) i o = true := by
                intro m
                induction m using Nat.strongRecOn with
                | _ m ihm =>
                  intro hm hmt hml
                  obtain ⟨om, hom, h2⟩ := hleft m hm hmt hml
                  by_cases hp' : ∃ e ∈ om.after, Region.binds .any e = true ∧ L.getD e.on false = false
                  · obtain ⟨e, he, hbd, hf'⟩ := hp'
                    have hlt := ordG_pred hb hom he hbd
                    exact ihm e.on hlt (by omega) (ordG_no hb hm hom he hbd) hf'
                  · exact ⟨m, om, hm, hom, mem_ready.2 ⟨by rw [getD_two (by rw [hc.1]; omega) true false]; exact hml, om, hom, fun e he hbd => by
                      cases hq : L.getD e.on false with
                      | true => rfl
                      | false => exact absurd ⟨e, he, hbd, hq⟩ hp'⟩, h2⟩
              exact hfloat (hfirst k0 hk0.1 hk0.2.1 hk0.2.2)
          obtain ⟨r, hr, hd, hy, _⟩ := see i o hih ho hu hp
          have hop : opAt ro P ops Q o (wpAnyIn (Fn ro) 0 P .any ops Q fuel (L.setIfInBounds i true)) a w := hy.opAt hcf hd fun a' w' hcf' => next i o r hih ho hi hr a' w' hcf'
          unfold wpOpIn
          rw [ho]
          exact hop
theorem region_late {ro : Option Nat} {lt : Nat} (hro : ro = none) {P : Program} (hm : P.follows .mixedOrders = true) {ops : Array Oper} {h : Nat} (hb : ordG lt ops h = true) {id : Nat} {Q : Exit → Act → World → Prop} {g : Gh} {β : Bt} {O : Nat → Prop} {H : Hp} {nx : Nat} {n : Nat × Nat × Nat} {f : Nat → Option AV} {rs : List AV}
    (hQ : ∀ c a w, ¬ Q (.panic c) a w) (hlex : Lex P ops H nx n (ops.toList.take h) f rs) (htail : ∀ a w, Cf g β O (foldX (fun _ => true) 0 (ops.toList.take h) rs f) H nx n a w → wpListIn (Fn ro) 0 P ops Q (ops.toList.drop h) a w)
    (hlate : ∀ (fuel : Nat) (L : Array Bool) (a : Act) (w : World), L.size = ops.size → (∀ i, i < ops.size → L.getD i false = decide (i < h ∧ i ≠ lt)) → ops.size ≤ fuel + (L.toList.countP (· == true)) → Cf g β O (foldX (fun i => i != lt) 0 (ops.toList.take h) rs f) H nx n a w → wpAnyIn (Fn ro) 0 P .any ops Q fuel L a w)
    {a : Act} {w : World} (hc : Cf g β O f H nx n a w) : (Code.region id ops true).wpIn (Fn ro) 0 P Q a w := by
  refine wpIn_region_any hm ?_
  have hdrew : Gr w { w with drawn := w.drawn + 1 } := (Gr.refl _).drew
  have hrep : ∀ i, (Array.replicate ops.size false).getD i false = false := fun i => by
    rw [Array.getD_eq_getD_getElem?]
    simp only [Array.getElem?_replicate]
    split <;> rfl
  refine head_late hro hb hQ hlex htail hlate ops.size _ a _ ⟨by simp, fun i o _ hl => by rw [hrep] at hl; cases hl⟩ (fun i _ => hrep i) (by omega) ?_
  rw [foldX_none _ _ _ _ (fun i _ _ => hrep i)]
  exact hc.gr hdrew
theorem lk_filter {d0 : Nat} : ∀ {fr : List (Nat × AV)} {t : Nat} {av : AV}, lk (fr.filter fun p => p.1 != d0) t = some av → t ≠ d0 ∧ lk fr t = some av
  | [], t, av, h => by simp [lk_nil'] at h
  | (s, v) :: fr, t, av, h => by
    rw [List.filter_cons] at h
    by_cases hs : s = d0
    · subst hs
      simp only [bne_self_eq_false, Bool.false_eq_true, if_false] at h
      obtain ⟨h1, h2⟩ := lk_filter h
      refine ⟨h1, ?_⟩
      rw [lk_cons', show (s == t) = false by simpa using Ne.symm h1]
      exact h2
    · rw [if_pos (by simpa using hs), lk_cons'] at h
      rw [lk_cons']
      by_cases hst : s = t
      · subst hst
        rw [show (s == s) = true by simp] at h ⊢
        exact ⟨hs, h⟩
      · have e : (s == t) = false := by simpa using hst
        rw [e] at h ⊢
        exact lk_filter h
def lateL (n k lt : Nat) : Array Bool := ((List.range n).map fun i => decide (i < k ∧ i ≠ lt)).toArray
def drawL (mu : List Nat) (l : List Oper) (k lt d0 : Nat) (t : OT) : Bool :=
  ordG lt l.toArray k && ((l.take k).all fun o => !isMut mu o) && ((l.take k)[lt]?.map (·.dst) == some (some d0)) && (t.idx == Region.ready .any l.toArray (lateL l.length k lt)) && kidsB l.toArray t (lateL l.length k lt)
def St.forget (σ : St) (d : Nat) : St := { σ with fr := σ.fr.filter fun p => p.1 != d }
theorem vc_drawL {E : Ev} {mu : List Nat} {Q : Post} {σ : St} (hE : EvOk E) (hro : E.ro = none) {id : Nat} {l : List Oper} (k lt d0 : Nat) (t : OT) (hb : drawL mu l k lt d0 t = true)
    (h : ∀ K : St → Prop, (∀ σ', Q.n σ' → K σ') → wpA E mu l.toArray (l.take k) σ fun σ1 => wpA E mu l.toArray (l.drop k) σ1 K ∧ bif t.isNil then K (σ1.forget d0) else wpK E mu l.toArray t (σ1.forget d0) K) : VC E mu (.region id l.toArray true) Q σ := by
  intro hY g β O a w hf hc
  simp only [drawL, Bool.and_eq_true, List.all_eq_true, beq_iff_eq] at hb
  obtain ⟨⟨⟨⟨b1, b2⟩, b3⟩, b4⟩, b5⟩ := hb
  have h0 := h Q.n fun _ h => h
  rw [← List.append_nil (l.take k)] at h0
  obtain ⟨rs, σ', h1, h2, h3, h4, h5, h6⟩ := wpA_lex hE (l.take k) [] σ _ (fun o ho => by simpa using b2 o ho) h0
  obtain ⟨h6, h7⟩ := h6
  refine region_late hro hE.mix (h := k) b1 (rs := rs) (fun c a w hq => hq) (by simpa using h1) (fun a' w' hc' => ?_) (fun fuel L a' w' hs hL hcount hc' => ?_) hc
  · have hcn : Cn g β O σ' a' w' := by
      unfold Cn
      rw [h3, h4, h5, funext (h2 0)]
      simpa using hc'
    simpa using wpA_ok (Q := PC E g Q) hE hY (l.drop k) σ' Q.n g β O a' w' (hf.n h5) hcn h6 (fun a' w' hq => hq)
  · have hLe : L = lateL l.length k lt := by
      refine Array.ext_getElem? fun i => ?_
      by_cases hi : i < l.length
      · have h8 := hL i (by simpa using hi)
        have hi' : i < L.size := by rw [hs]; simpa using hi
        rw [Array.getD_eq_getD_getElem?, Array.getElem?_eq_getElem hi'] at h8
        rw [Array.getElem?_eq_getElem hi']
        simp only [Option.getD_some] at h8
        rw [h8]
        simp [lateL, hi]
      · rw [Array.getElem?_eq_none (by rw [hs]; simp; omega), Array.getElem?_eq_none (by simp [lateL]; omega)]
    have hcn : Cn g β O (σ'.forget d0) a' w' := by
      have hsub : ∀ (s : Nat) (av : AV), lk (σ'.forget d0).fr s = some av → foldX (fun i => i != lt) 0 (l.take k) rs (lk σ.fr) s = some av := fun s av hs => by
        obtain ⟨e1, e2⟩ := lk_filter hs
        rw [← e2, h2 0 s]
        refine foldX_at _ _ _ _ _ (fun i o hi hd => ?_) rfl
        have : i ≠ lt := fun e => by
          subst e
          rw [hi] at b3
          simp only [Option.map_some, Option.some.injEq] at b3
          rw [hd] at b3
          simp only [Option.some.injEq] at b3
          exact e1 b3
        simpa using this
      have hc2 : Cf g β O (foldX (fun i => i != lt) 0 (l.take k) rs (lk σ.fr)) σ'.hp σ'.nx σ'.n a' w' := by
        rw [h3, h4, h5]; simpa using hc'
      exact ⟨hc2.defers, fun s av hs => hc2.fr s av (hsub s av hs), hc2.sz, hc2.hc, hc2.inv, hc2.b0, hc2.pp, hc2.prot, hc2.tr⟩
    subst hLe
    exact tree_any hE hY fuel _ t (σ'.forget d0) g β O a' w' (hf.n h5) hcn b4 b5 hs (by simpa using hcount) h7 fun a'' w'' hq => hq
theorem v_drawL {E : Ev} {mu : List Nat} {N : St → Prop} {X : Nat → St → Prop} {R : St → Prop} {σ : St} (hE : EvOk E) (hro : E.ro = none) {id : Nat} {l : List Oper} (k lt d0 : Nat) (t : OT) (hb : drawL mu l k lt d0 t = true)
    (h : ∀ K : St → Prop, (∀ σ', N σ' → K σ') → wpA E mu l.toArray (l.take k) σ fun σ1 => wpA E mu l.toArray (l.drop k) σ1 K ∧ bif t.isNil then K (σ1.forget d0) else wpK E mu l.toArray t (σ1.forget d0) K) : VC E mu (.region id l.toArray true) ⟨N, X, R⟩ σ := vc_drawL hE hro k lt d0 t hb h
end Go.Ab
set_option maxRecDepth 100000
set_option maxHeartbeats 4000000
set_option linter.unusedSimpArgs false
set_option linter.unusedVariables false
set_option linter.unusedSectionVars false
namespace Go.Proofs.YtabmhfmglhjmjaaGreatDoor
open Go.Ab Go.RowKit
variable [Dr]
abbrev lsl (l : List Lmk) : AV := .sl 3 l.length (ints (flatL l))
theorem lm_take {l : List Lmk} {i : Nat} (h : i < l.length) : List.take 3 (List.drop (((i : Nat) : Int).toNat * 3) (flatL l)) = [(gl l i).a, (gl l i).b, (gl l i).d] := flatL_at h
theorem ints3 (a b c : Int) : ints [a, b, c] = [iv a, iv b, iv c] := rfl
theorem spl3 (x y z a b c : AV) : splice [x, y, z] 0 [a, b, c] = [a, b, c] := splice_all rfl
theorem spl2 (x y a b : AV) : splice [x, y] 0 [a, b] = [a, b] := splice_all rfl
theorem c_CL1 (n : Int) : Pure Tryz.prog 108 [iv n] (.v (.bool (within n 0 1000000))) := by
  refine p_intro evOk [] Tryz.func108 rfl Tryz.call108 ?_
  repeat' first
   | refine v_seq ?_ | refine v_block ?_ | refine v_ret ?_ | refine v_skip ?_ | (refine v_exit ?_; repeat' first | refine xB_eq ?_ | refine xB_ne rfl ?_)
   | ((first | refine rgA fun K hK => ?_ | refine rgB rfl fun K hK => ?_ | refine rgC rfl fun K hK => ?_); simp only [go_sem,simprocAttr])
   | (simp (disch := first | omega | rfl | (simp only [lnn]; omega)) only [spl])
   | (refine hK _ ?_; clear hK K)
   | (refine gdB_intro (fun h => ?_) (fun h => ?_) <;> simp only [go_sem,simprocAttr,h] <;> (have h' := h; try simp only [bl] at h'))
   | (refine v_cond rfl (fun h => ?_) (fun h => ?_) <;> first | (exact Bool.noConfusion h) | (have h' := h; try simp only [bl] at h'))
   | (refine r_ret ?_; simp only [resL, resA, Tryz.f108, lk_cons', lk_nil', Nat.reduceBEq]; first | exact ⟨rfl, Sb.nil _, rfl⟩ | refine ⟨rfl, sbt ?_, rfl⟩ | refine ⟨rfl, Sb.of_eq ?_, rfl⟩)
   | (refine And.intro (by first | exact True.intro | omega | rfl | exact Nat.le_of_ble_eq_true rfl | (simp only [lnn]; omega) | exact List.forall_mem_nil _ | (refine List.forall_mem_cons.2 ⟨⟨_, rfl⟩, ?_⟩; repeat' first | exact List.forall_mem_nil _ | refine List.forall_mem_cons.2 ⟨⟨_, rfl⟩, ?_⟩)) ?_)
   | ((first | refine call_pure' (c_within _ _ _) rfl ?_); simp only [go_sem,simprocAttr])
   | fail
theorem lmE_bad {l : List Lmk} {i : Nat} (h : (gl l i).ok = false) : lmE l i = 2 := by unfold lmE; rw [h]; rfl
theorem lmE_good {l : List Lmk} {i : Nat} (h : (gl l i).ok = true) : lmE l i = 0 := by unfold lmE; rw [h]; rfl
theorem c_CheckLandmarks (l : List Lmk) (hl : Len l.length) : Pure Tryz.prog 41 [lsl l] (.tu [iv (ckL l).1, iv (ckL l).2]) := by
  unfold Len at hl
  have hL := flatL_length l
  have n0 : ((0 : Nat) : Int) = 0 := rfl
  unfold ckL
  cases hq : decide (12 < (l.length : Int))
  rotate_left
  · refine p_intro evOk [6] Tryz.func41 rfl Tryz.call41 ?_
    repeat' first
     | refine v_seq ?_ | refine v_block ?_ | refine v_ret ?_ | refine v_skip ?_ | (refine v_exit ?_; repeat' first | refine xB_eq ?_ | refine xB_ne rfl ?_)
     | ((first | refine rgA fun K hK => ?_ | refine rgB rfl fun K hK => ?_ | refine rgC rfl fun K hK => ?_); simp only [go_sem,simprocAttr,hq])
     | (simp (disch := first | omega | rfl | (simp only [lnn]; omega)) only [spl])
     | (refine hK _ ?_; clear hK K)
     | (refine gdB_intro (fun h => ?_) (fun h => ?_) <;> simp only [go_sem,simprocAttr,h,hq] <;> (have h' := h; try simp only [bl] at h'))
     | (refine v_cond rfl (fun h => ?_) (fun h => ?_) <;> first | (exact Bool.noConfusion h) | (have h' := h; try simp only [bl] at h'))
     | (refine r_ret ?_; simp only [resL, resA, Tryz.f41, lk_cons', lk_nil', Nat.reduceBEq]; first | exact ⟨rfl, Sb.nil _, rfl⟩ | refine ⟨rfl, sbt ?_, rfl⟩ | refine ⟨rfl, Sb.of_eq ?_, rfl⟩)
     | (refine And.intro (by first | exact True.intro | omega | rfl | exact Nat.le_of_ble_eq_true rfl | (simp only [lnn]; omega) | exact List.forall_mem_nil _ | (refine List.forall_mem_cons.2 ⟨⟨_, rfl⟩, ?_⟩; repeat' first | exact List.forall_mem_nil _ | refine List.forall_mem_cons.2 ⟨⟨_, rfl⟩, ?_⟩)) ?_)
     | fail
    rfl
  rw [cond_false]
  refine p_intro evOk [6] Tryz.func41 rfl Tryz.call41 ?_
  repeat' first
   | refine v_seq ?_ | refine v_block ?_ | refine v_ret ?_ | refine v_skip ?_ | (refine v_exit ?_; repeat' first | refine xB_eq ?_ | refine xB_ne rfl ?_)
   | ((first | refine rgA fun K hK => ?_ | refine rgB rfl fun K hK => ?_ | refine rgC rfl fun K hK => ?_); simp only [go_sem,simprocAttr,hq,n0])
   | (simp (disch := first | omega | rfl | (simp only [lnn]; omega)) only [spl])
   | (refine hK _ ?_; clear hK K)
   | (refine gdB_intro (fun h => ?_) (fun h => ?_) <;> simp only [go_sem,simprocAttr,h,hq,n0] <;> (have h' := h; try simp only [bl] at h'))
   | (refine v_cond rfl (fun h => ?_) (fun h => ?_) <;> first | (exact Bool.noConfusion h) | (have h' := h; try simp only [bl] at h'))
   | (refine r_ret ?_; simp only [resL, resA, Tryz.f41, lk_cons', lk_nil', Nat.reduceBEq]; first | exact ⟨rfl, Sb.nil _, rfl⟩ | refine ⟨rfl, sbt ?_, rfl⟩ | refine ⟨rfl, Sb.of_eq ?_, rfl⟩)
   | (refine And.intro (by first | exact True.intro | omega | rfl | exact Nat.le_of_ble_eq_true rfl | (simp only [lnn]; omega) | exact List.forall_mem_nil _ | (refine List.forall_mem_cons.2 ⟨⟨_, rfl⟩, ?_⟩; repeat' first | exact List.forall_mem_nil _ | refine List.forall_mem_cons.2 ⟨⟨_, rfl⟩, ?_⟩)) ?_)
   | fail
  refine v_loop (T := Nat) (fun i => ⟨[(4, .fn (.func 108) [] []), (10, lsl l), (11, iv l.length), (12, iv i)], hls [], i, (38, 0, 0)⟩) (fun i => i ≤ l.length ∧ ∀ q, q < i → lmE l q = 0) (fun i => l.length - i) 0 ⟨by omega, fun q hq => absurd hq (by omega)⟩ (by (refine ent_eq ?_ rfl rfl rfl; repeat' first | exact trivial | refine ⟨?_, ?_⟩ | rfl)) ?_
  rintro i ⟨hi, hP⟩
  by_cases hi2 : i < l.length
  · have hd : decide ((i : Int) < l.length) = true := decide_eq_true (by omega)
    have h1 := lm_take hi2
    have hfin : (gl l i).ok = false → fb7 (lmE l) l.length = ((i : Int), 2) := fun h => by
      rw [fb7_at (i := i) (by rw [lmE_bad h]; decide) hP _ hi2, lmE_bad h]
    cases wa : within (gl l i).a 0 1000000
    · rw [hfin (by unfold Lmk.ok; rw [wa]; rfl)]
      repeat' first
       | refine v_seq ?_ | refine v_block ?_ | refine v_ret ?_ | refine v_skip ?_ | (refine v_exit ?_; repeat' first | refine xB_eq ?_ | refine xB_ne rfl ?_)
       | ((first | refine rgA fun K hK => ?_ | refine rgB rfl fun K hK => ?_ | refine rgC rfl fun K hK => ?_); simp only [go_sem,simprocAttr,hd,n0,hL,hls,h1,ints3,spl3,wa,hset_at,hset_hset])
       | (simp (disch := first | omega | rfl | (simp only [lnn]; omega)) only [spl])
       | (refine hK _ ?_; clear hK K)
       | (refine gdB_intro (fun h => ?_) (fun h => ?_) <;> simp only [go_sem,simprocAttr,h,hd,n0,hL,hls,h1,ints3,spl3,wa,hset_at,hset_hset] <;> (have h' := h; try simp only [bl] at h'))
       | (refine v_cond rfl (fun h => ?_) (fun h => ?_) <;> first | (exact Bool.noConfusion h) | (have h' := h; try simp only [bl] at h'))
       | (refine r_ret ?_; simp only [resL, resA, Tryz.f41, lk_cons', lk_nil', Nat.reduceBEq]; first | exact ⟨rfl, Sb.nil _, rfl⟩ | refine ⟨rfl, sbt ?_, rfl⟩ | refine ⟨rfl, Sb.of_eq ?_, rfl⟩)
       | (refine And.intro (by first | exact True.intro | omega | rfl | exact Nat.le_of_ble_eq_true rfl | (simp only [lnn]; omega) | exact List.forall_mem_nil _ | (refine List.forall_mem_cons.2 ⟨⟨_, rfl⟩, ?_⟩; repeat' first | exact List.forall_mem_nil _ | refine List.forall_mem_cons.2 ⟨⟨_, rfl⟩, ?_⟩)) ?_)
       | ((first | refine call_pure' (c_CL1 _) rfl ?_); simp only [go_sem,simprocAttr,hd,n0,hL,hls,h1,ints3,spl3,wa,hset_at,hset_hset])
       | fail
      all_goals try (exfalso; omega)
      all_goals rfl
    cases wb : within (gl l i).b 0 1000000
    · rw [hfin (by unfold Lmk.ok; rw [wa, wb]; rfl)]
      repeat' first
       | refine v_seq ?_ | refine v_block ?_ | refine v_ret ?_ | refine v_skip ?_ | (refine v_exit ?_; repeat' first | refine xB_eq ?_ | refine xB_ne rfl ?_)
       | ((first | refine rgA fun K hK => ?_ | refine rgB rfl fun K hK => ?_ | refine rgC rfl fun K hK => ?_); simp only [go_sem,simprocAttr,hd,n0,hL,hls,h1,ints3,spl3,wa,wb,hset_at,hset_hset])
       | (simp (disch := first | omega | rfl | (simp only [lnn]; omega)) only [spl])
       | (refine hK _ ?_; clear hK K)
       | (refine gdB_intro (fun h => ?_) (fun h => ?_) <;> simp only [go_sem,simprocAttr,h,hd,n0,hL,hls,h1,ints3,spl3,wa,wb,hset_at,hset_hset] <;> (have h' := h; try simp only [bl] at h'))
       | (refine v_cond rfl (fun h => ?_) (fun h => ?_) <;> first | (exact Bool.noConfusion h) | (have h' := h; try simp only [bl] at h'))
       | (refine r_ret ?_; simp only [resL, resA, Tryz.f41, lk_cons', lk_nil', Nat.reduceBEq]; first | exact ⟨rfl, Sb.nil _, rfl⟩ | refine ⟨rfl, sbt ?_, rfl⟩ | refine ⟨rfl, Sb.of_eq ?_, rfl⟩)
       | (refine And.intro (by first | exact True.intro | omega | rfl | exact Nat.le_of_ble_eq_true rfl | (simp only [lnn]; omega) | exact List.forall_mem_nil _ | (refine List.forall_mem_cons.2 ⟨⟨_, rfl⟩, ?_⟩; repeat' first | exact List.forall_mem_nil _ | refine List.forall_mem_cons.2 ⟨⟨_, rfl⟩, ?_⟩)) ?_)
       | ((first | refine call_pure' (c_CL1 _) rfl ?_); simp only [go_sem,simprocAttr,hd,n0,hL,hls,h1,ints3,spl3,wa,wb,hset_at,hset_hset])
       | fail
      all_goals try (exfalso; omega)
      all_goals rfl
    cases wd : within (gl l i).d 0 1000000
    · rw [hfin (by unfold Lmk.ok; rw [wa, wb, wd]; rfl)]
      repeat' first
       | refine v_seq ?_ | refine v_block ?_ | refine v_ret ?_ | refine v_skip ?_ | (refine v_exit ?_; repeat' first | refine xB_eq ?_ | refine xB_ne rfl ?_)
       | ((first | refine rgA fun K hK => ?_ | refine rgB rfl fun K hK => ?_ | refine rgC rfl fun K hK => ?_); simp only [go_sem,simprocAttr,hd,n0,hL,hls,h1,ints3,spl3,wa,wb,wd,hset_at,hset_hset])
       | (simp (disch := first | omega | rfl | (simp only [lnn]; omega)) only [spl])
       | (refine hK _ ?_; clear hK K)
       | (refine gdB_intro (fun h => ?_) (fun h => ?_) <;> simp only [go_sem,simprocAttr,h,hd,n0,hL,hls,h1,ints3,spl3,wa,wb,wd,hset_at,hset_hset] <;> (have h' := h; try simp only [bl] at h'))
       | (refine v_cond rfl (fun h => ?_) (fun h => ?_) <;> first | (exact Bool.noConfusion h) | (have h' := h; try simp only [bl] at h'))
       | (refine r_ret ?_; simp only [resL, resA, Tryz.f41, lk_cons', lk_nil', Nat.reduceBEq]; first | exact ⟨rfl, Sb.nil _, rfl⟩ | refine ⟨rfl, sbt ?_, rfl⟩ | refine ⟨rfl, Sb.of_eq ?_, rfl⟩)
       | (refine And.intro (by first | exact True.intro | omega | rfl | exact Nat.le_of_ble_eq_true rfl | (simp only [lnn]; omega) | exact List.forall_mem_nil _ | (refine List.forall_mem_cons.2 ⟨⟨_, rfl⟩, ?_⟩; repeat' first | exact List.forall_mem_nil _ | refine List.forall_mem_cons.2 ⟨⟨_, rfl⟩, ?_⟩)) ?_)
       | ((first | refine call_pure' (c_CL1 _) rfl ?_); simp only [go_sem,simprocAttr,hd,n0,hL,hls,h1,ints3,spl3,wa,wb,wd,hset_at,hset_hset])
       | fail
      all_goals try (exfalso; omega)
      all_goals rfl
    · repeat' first
       | refine v_seq ?_ | refine v_block ?_ | refine v_ret ?_ | refine v_skip ?_ | (refine v_exit ?_; repeat' first | refine xB_eq ?_ | refine xB_ne rfl ?_)
       | ((first | refine rgA fun K hK => ?_ | refine rgB rfl fun K hK => ?_ | refine rgC rfl fun K hK => ?_); simp only [go_sem,simprocAttr,hd,n0,hL,hls,h1,ints3,spl3,wa,wb,wd,hset_at,hset_hset])
       | (simp (disch := first | omega | rfl | (simp only [lnn]; omega)) only [spl])
       | (refine hK _ ?_; clear hK K)
       | (refine gdB_intro (fun h => ?_) (fun h => ?_) <;> simp only [go_sem,simprocAttr,h,hd,n0,hL,hls,h1,ints3,spl3,wa,wb,wd,hset_at,hset_hset] <;> (have h' := h; try simp only [bl] at h'))
       | (refine v_cond rfl (fun h => ?_) (fun h => ?_) <;> first | (exact Bool.noConfusion h) | (have h' := h; try simp only [bl] at h'))
       | (refine r_ret ?_; simp only [resL, resA, Tryz.f41, lk_cons', lk_nil', Nat.reduceBEq]; first | exact ⟨rfl, Sb.nil _, rfl⟩ | refine ⟨rfl, sbt ?_, rfl⟩ | refine ⟨rfl, Sb.of_eq ?_, rfl⟩)
       | (refine And.intro (by first | exact True.intro | omega | rfl | exact Nat.le_of_ble_eq_true rfl | (simp only [lnn]; omega) | exact List.forall_mem_nil _ | (refine List.forall_mem_cons.2 ⟨⟨_, rfl⟩, ?_⟩; repeat' first | exact List.forall_mem_nil _ | refine List.forall_mem_cons.2 ⟨⟨_, rfl⟩, ?_⟩)) ?_)
       | ((first | refine call_pure' (c_CL1 _) rfl ?_); simp only [go_sem,simprocAttr,hd,n0,hL,hls,h1,ints3,spl3,wa,wb,wd,hset_at,hset_hset])
       | fail
      all_goals try (exfalso; omega)
      all_goals exact ⟨i + 1, ent_rows [] (by (repeat' first | exact trivial | refine ⟨?_, ?_⟩ | rfl)) rfl trivial (Nat.le_refl _), ⟨by omega, fun q hq => by
        by_cases e : q = i
        · subst e; exact lmE_good (by unfold Lmk.ok; rw [wa, wb, wd]; rfl)
        · exact hP q (by omega)⟩, by omega⟩
  · obtain rfl : i = l.length := by omega
    have hd : decide ((l.length : Int) < l.length) = false := decide_eq_false (by omega)
    rw [fb7_zero _ hP]
    repeat' first
     | refine v_seq ?_ | refine v_block ?_ | refine v_ret ?_ | refine v_skip ?_ | (refine v_exit ?_; repeat' first | refine xB_eq ?_ | refine xB_ne rfl ?_)
     | ((first | refine rgA fun K hK => ?_ | refine rgB rfl fun K hK => ?_ | refine rgC rfl fun K hK => ?_); simp only [go_sem,simprocAttr,hd])
     | (simp (disch := first | omega | rfl | (simp only [lnn]; omega)) only [spl])
     | (refine hK _ ?_; clear hK K)
     | (refine gdB_intro (fun h => ?_) (fun h => ?_) <;> simp only [go_sem,simprocAttr,h,hd] <;> (have h' := h; try simp only [bl] at h'))
     | (refine v_cond rfl (fun h => ?_) (fun h => ?_) <;> first | (exact Bool.noConfusion h) | (have h' := h; try simp only [bl] at h'))
     | (refine r_ret ?_; simp only [resL, resA, Tryz.f41, lk_cons', lk_nil', Nat.reduceBEq]; first | exact ⟨rfl, Sb.nil _, rfl⟩ | refine ⟨rfl, sbt ?_, rfl⟩ | refine ⟨rfl, Sb.of_eq ?_, rfl⟩)
     | (refine And.intro (by first | exact True.intro | omega | rfl | exact Nat.le_of_ble_eq_true rfl | (simp only [lnn]; omega) | exact List.forall_mem_nil _ | (refine List.forall_mem_cons.2 ⟨⟨_, rfl⟩, ?_⟩; repeat' first | exact List.forall_mem_nil _ | refine List.forall_mem_cons.2 ⟨⟨_, rfl⟩, ?_⟩)) ?_)
     | fail
theorem c_someErr (l : List Lmk) (hl : Len l.length) : Pure Tryz.prog 109 [lsl l] (iv (firstE [(ckL l).2, unlessE (decide (0 < (l.length : Int))) 10])) := by
  refine p_intro evOk [] Tryz.func109 rfl Tryz.call109 ?_
  repeat' first
   | refine v_seq ?_ | refine v_block ?_ | refine v_ret ?_ | refine v_skip ?_ | (refine v_exit ?_; repeat' first | refine xB_eq ?_ | refine xB_ne rfl ?_)
   | ((first | refine rgA fun K hK => ?_ | refine rgB rfl fun K hK => ?_ | refine rgC rfl fun K hK => ?_); simp only [go_sem,simprocAttr])
   | (simp (disch := first | omega | rfl | (simp only [lnn]; omega)) only [spl])
   | (refine hK _ ?_; clear hK K)
   | (refine gdB_intro (fun h => ?_) (fun h => ?_) <;> simp only [go_sem,simprocAttr,h] <;> (have h' := h; try simp only [bl] at h'))
   | (refine v_cond rfl (fun h => ?_) (fun h => ?_) <;> first | (exact Bool.noConfusion h) | (have h' := h; try simp only [bl] at h'))
   | (refine r_ret ?_; simp only [resL, resA, Tryz.f109, lk_cons', lk_nil', Nat.reduceBEq]; first | exact ⟨rfl, Sb.nil _, rfl⟩ | refine ⟨rfl, sbt ?_, rfl⟩ | refine ⟨rfl, Sb.of_eq ?_, rfl⟩)
   | (refine And.intro (by first | exact True.intro | omega | rfl | exact Nat.le_of_ble_eq_true rfl | (simp only [lnn]; omega) | exact List.forall_mem_nil _ | (refine List.forall_mem_cons.2 ⟨⟨_, rfl⟩, ?_⟩; repeat' first | exact List.forall_mem_nil _ | refine List.forall_mem_cons.2 ⟨⟨_, rfl⟩, ?_⟩)) ?_)
   | ((first | refine call_pure' (c_CheckLandmarks l hl) rfl ?_ | refine call_pure' (c_unless _ _) rfl ?_ | refine call_pure' (c_first [_, _] (len_lit rfl)) rfl ?_); simp only [go_sem,simprocAttr])
   | fail
theorem c_lags (x : Lmk) (h : (0 ≤ x.a ∧ x.a ≤ 1000000) ∧ (0 ≤ x.b ∧ x.b ≤ 1000000) ∧ (0 ≤ x.d ∧ x.d ≤ 1000000)) : Pure Tryz.prog 110 [.ag [iv x.a, iv x.b, iv x.d]] (.ag [iv x.lo, iv x.hi]) := by
  refine p_intro evOk [2] Tryz.func110 rfl Tryz.call110 ?_
  repeat' first
   | refine v_seq ?_ | refine v_block ?_ | refine v_ret ?_ | refine v_skip ?_ | (refine v_exit ?_; repeat' first | refine xB_eq ?_ | refine xB_ne rfl ?_)
   | ((first | refine rgA fun K hK => ?_ | refine rgB rfl fun K hK => ?_ | refine rgC rfl fun K hK => ?_); simp only [go_sem,simprocAttr,hset_at,hset_hset,spl2])
   | (simp (disch := first | omega | rfl | (simp only [lnn]; omega)) only [spl])
   | (refine hK _ ?_; clear hK K)
   | (refine gdB_intro (fun h => ?_) (fun h => ?_) <;> simp only [go_sem,simprocAttr,h,hset_at,hset_hset,spl2] <;> (have h' := h; try simp only [bl] at h'))
   | (refine v_cond rfl (fun h => ?_) (fun h => ?_) <;> first | (exact Bool.noConfusion h) | (have h' := h; try simp only [bl] at h'))
   | (refine r_ret ?_; simp only [resL, resA, Tryz.f110, lk_cons', lk_nil', Nat.reduceBEq]; first | exact ⟨rfl, Sb.nil _, rfl⟩ | refine ⟨rfl, sbt ?_, rfl⟩ | refine ⟨rfl, Sb.of_eq ?_, rfl⟩)
   | (refine And.intro (by first | exact True.intro | omega | rfl | exact Nat.le_of_ble_eq_true rfl | (simp only [lnn]; omega) | exact List.forall_mem_nil _ | (refine List.forall_mem_cons.2 ⟨⟨_, rfl⟩, ?_⟩; repeat' first | exact List.forall_mem_nil _ | refine List.forall_mem_cons.2 ⟨⟨_, rfl⟩, ?_⟩)) ?_)
   | fail
  refine r_ret ?_
  simp only [resL, resA, Tryz.f110, go_sem,simprocAttr,hset_at,spl2]
  exact ⟨Nat.le_refl _, rfl, Sb.of_eq rfl⟩
def smE (l : List Lmk) : Int := firstE [(ckL l).2, unlessE (decide (0 < (l.length : Int))) 10]
theorem smE_zero {l : List Lmk} (h : smE l = 0) : (ckL l).2 = 0 ∧ 1 ≤ l.length := by
  have hf := firstE_zero h
  refine ⟨hf _ (by simp : (ckL l).2 ∈ _), ?_⟩
  have := of_decide_eq_true (unlessE_zero (by decide) (hf (unlessE (decide (0 < (l.length : Int))) 10) (by simp)))
  omega
def mostR (l : List Lmk) : (Int × Int) × Int := bif smE l != 0 then ((0, 0), smE l) else (mostT l l.length, 0)
theorem c_MostAgreed (l : List Lmk) (hl : Len l.length) : Pure Tryz.prog 45 [lsl l] (.tu [iv (mostR l).1.1, iv (mostR l).1.2, iv (mostR l).2]) := by
  have hsm := c_someErr l hl
  change Pure _ _ _ (iv (smE l)) at hsm
  unfold Len at hl
  have hL := flatL_length l
  have n0 : ((0 : Nat) : Int) = 0 := rfl
  unfold mostR
  cases hq : smE l != 0
  rotate_left
  · refine p_intro evOk [9, 13, 14] Tryz.func45 rfl Tryz.call45 ?_
    repeat' first
     | refine v_seq ?_ | refine v_block ?_ | refine v_ret ?_ | refine v_skip ?_ | (refine v_exit ?_; repeat' first | refine xB_eq ?_ | refine xB_ne rfl ?_)
     | ((first | refine rgA fun K hK => ?_ | refine rgB rfl fun K hK => ?_ | refine rgC rfl fun K hK => ?_); simp only [go_sem,simprocAttr,hq])
     | (simp (disch := first | omega | rfl | (simp only [lnn]; omega)) only [spl])
     | (refine hK _ ?_; clear hK K)
     | (refine gdB_intro (fun h => ?_) (fun h => ?_) <;> simp only [go_sem,simprocAttr,h,hq] <;> (have h' := h; try simp only [bl] at h'))
     | (refine v_cond rfl (fun h => ?_) (fun h => ?_) <;> first | (exact Bool.noConfusion h) | (have h' := h; try simp only [bl] at h'))
     | (refine r_ret ?_; simp only [resL, resA, Tryz.f45, lk_cons', lk_nil', Nat.reduceBEq]; first | exact ⟨rfl, Sb.nil _, rfl⟩ | refine ⟨rfl, sbt ?_, rfl⟩ | refine ⟨rfl, Sb.of_eq ?_, rfl⟩)
     | (refine And.intro (by first | exact True.intro | omega | rfl | exact Nat.le_of_ble_eq_true rfl | (simp only [lnn]; omega) | exact List.forall_mem_nil _ | (refine List.forall_mem_cons.2 ⟨⟨_, rfl⟩, ?_⟩; repeat' first | exact List.forall_mem_nil _ | refine List.forall_mem_cons.2 ⟨⟨_, rfl⟩, ?_⟩)) ?_)
     | ((first | refine call_pure' (hsm) rfl ?_); simp only [go_sem,simprocAttr,hq])
     | fail
    rfl
  have hz : smE l = 0 := by simpa using hq
  rw [hz] at hsm
  rw [cond_false]
  obtain ⟨h1, h2⟩ := smE_zero hz
  obtain ⟨h12, _, hb⟩ := ckL_zero h1
  refine p_intro evOk [9, 13, 14] Tryz.func45 rfl Tryz.call45 ?_
  repeat' first
   | refine v_seq ?_ | refine v_block ?_ | refine v_ret ?_ | refine v_skip ?_ | (refine v_exit ?_; repeat' first | refine xB_eq ?_ | refine xB_ne rfl ?_)
   | ((first | refine rgA fun K hK => ?_ | refine rgB rfl fun K hK => ?_ | refine rgC rfl fun K hK => ?_); simp only [go_sem,simprocAttr,bne_self_eq_false,n0])
   | (simp (disch := first | omega | rfl | (simp only [lnn]; omega)) only [spl])
   | (refine hK _ ?_; clear hK K)
   | (refine gdB_intro (fun h => ?_) (fun h => ?_) <;> simp only [go_sem,simprocAttr,h,bne_self_eq_false,n0] <;> (have h' := h; try simp only [bl] at h'))
   | (refine v_cond rfl (fun h => ?_) (fun h => ?_) <;> first | (exact Bool.noConfusion h) | (have h' := h; try simp only [bl] at h'))
   | (refine r_ret ?_; simp only [resL, resA, Tryz.f45, lk_cons', lk_nil', Nat.reduceBEq]; first | exact ⟨rfl, Sb.nil _, rfl⟩ | refine ⟨rfl, sbt ?_, rfl⟩ | refine ⟨rfl, Sb.of_eq ?_, rfl⟩)
   | (refine And.intro (by first | exact True.intro | omega | rfl | exact Nat.le_of_ble_eq_true rfl | (simp only [lnn]; omega) | exact List.forall_mem_nil _ | (refine List.forall_mem_cons.2 ⟨⟨_, rfl⟩, ?_⟩; repeat' first | exact List.forall_mem_nil _ | refine List.forall_mem_cons.2 ⟨⟨_, rfl⟩, ?_⟩)) ?_)
   | ((first | refine call_pure' (hsm) rfl ?_); simp only [go_sem,simprocAttr,bne_self_eq_false,n0])
   | fail
  refine v_loop (T := Nat × Nat) (fun x => ⟨[(0, lsl l), (6, iv (mostT l x.1).1), (7, iv (mostT l x.1).2), (20, lsl l), (21, iv l.length), (22, iv x.1)], hls [], x.2, (64, 0, 0)⟩) (fun x => x.1 ≤ l.length) (fun x => l.length - x.1) (0, 0) (by dsimp only; omega) (ent_rows _ (by (repeat' first | exact trivial | refine ⟨?_, ?_⟩ | rfl)) rfl trivial (Nat.le_refl _)) ?_
  rintro ⟨i, X⟩ hi
  dsimp only at hi ⊢
  by_cases hi2 : i < l.length
  · have hd : decide ((i : Int) < l.length) = true := decide_eq_true (by omega)
    have g1 := lm_take hi2
    have k1 := c_lags (gl l i) (hb i hi2)
    repeat' first
     | refine v_seq ?_ | refine v_block ?_ | refine v_ret ?_ | refine v_skip ?_ | (refine v_exit ?_; repeat' first | refine xB_eq ?_ | refine xB_ne rfl ?_)
     | ((first | refine rgA fun K hK => ?_ | refine rgB rfl fun K hK => ?_ | refine rgC rfl fun K hK => ?_); simp only [go_sem,simprocAttr,hd,n0,hL,hls,g1,ints3,spl3,hset_at,hset_hset])
     | (simp (disch := first | omega | rfl | (simp only [lnn]; omega)) only [spl])
     | (refine hK _ ?_; clear hK K)
     | (refine gdB_intro (fun h => ?_) (fun h => ?_) <;> simp only [go_sem,simprocAttr,h,hd,n0,hL,hls,g1,ints3,spl3,hset_at,hset_hset] <;> (have h' := h; try simp only [bl] at h'))
     | (refine v_cond rfl (fun h => ?_) (fun h => ?_) <;> first | (exact Bool.noConfusion h) | (have h' := h; try simp only [bl] at h'))
     | (refine r_ret ?_; simp only [resL, resA, Tryz.f45, lk_cons', lk_nil', Nat.reduceBEq]; first | exact ⟨rfl, Sb.nil _, rfl⟩ | refine ⟨rfl, sbt ?_, rfl⟩ | refine ⟨rfl, Sb.of_eq ?_, rfl⟩)
     | (refine And.intro (by first | exact True.intro | omega | rfl | exact Nat.le_of_ble_eq_true rfl | (simp only [lnn]; omega) | exact List.forall_mem_nil _ | (refine List.forall_mem_cons.2 ⟨⟨_, rfl⟩, ?_⟩; repeat' first | exact List.forall_mem_nil _ | refine List.forall_mem_cons.2 ⟨⟨_, rfl⟩, ?_⟩)) ?_)
     | ((first | refine call_pure' (k1) rfl ?_); simp only [go_sem,simprocAttr,hd,n0,hL,hls,g1,ints3,spl3,hset_at,hset_hset])
     | fail
    all_goals try (exfalso; omega)
    refine v_loop (T := Nat × Nat) (fun x => ⟨[(0, lsl l), (6, iv (mostT l i).1), (7, iv (mostT l i).2), (20, lsl l), (21, iv l.length), (22, iv i), (10, iv (gl l i).lo), (11, iv (agT l (gl l i).lo x.1)), (29, lsl l), (30, iv l.length), (31, iv x.1)], hls [], x.2, (64, 0, 0)⟩) (fun x => x.1 ≤ l.length) (fun x => l.length - x.1) (0, X + 1) (by dsimp only; omega) (ent_rows _ (by (repeat' first | exact trivial | refine ⟨?_, ?_⟩ | rfl)) rfl trivial (Nat.le_refl _)) ?_
    rintro ⟨k, Y⟩ hk
    dsimp only at hk ⊢
    have hab := agT_bound l (gl l i).lo k
    by_cases hk2 : k < l.length
    · have hd2 : decide ((k : Int) < l.length) = true := decide_eq_true (by omega)
      have g2 := lm_take hk2
      have k2 := c_lags (gl l k) (hb k hk2)
      have e1 : (Y + 1 == Y) = false := beq_ne (by omega)
      have e2 : (Y == Y + 1) = false := beq_ne (by omega)
      have hag : agr (gl l k) (gl l i).lo = within (gl l i).lo (gl l k).lo (gl l k).hi := rfl
      cases hc : agr (gl l k) (gl l i).lo
      all_goals
        rw [hc] at hag
        have hsu : agT l (gl l i).lo (k + 1) = bif agr (gl l k) (gl l i).lo then agT l (gl l i).lo k + 1 else agT l (gl l i).lo k := rfl
        rw [hc] at hsu
        simp only [cond_true, cond_false] at hsu
        repeat' first
         | refine v_seq ?_ | refine v_block ?_ | refine v_ret ?_ | refine v_skip ?_ | (refine v_exit ?_; repeat' first | refine xB_eq ?_ | refine xB_ne rfl ?_)
         | ((first | refine rgA fun K hK => ?_ | refine rgB rfl fun K hK => ?_ | refine rgC rfl fun K hK => ?_); simp only [go_sem,simprocAttr,hd2,n0,hL,hls,g2,ints3,spl3,spl2,e1,e2,← hag,hset_at,hset_hset])
         | (simp (disch := first | omega | rfl | (simp only [lnn]; omega)) only [spl])
         | (refine hK _ ?_; clear hK K)
         | (refine gdB_intro (fun h => ?_) (fun h => ?_) <;> simp only [go_sem,simprocAttr,h,hd2,n0,hL,hls,g2,ints3,spl3,spl2,e1,e2,← hag,hset_at,hset_hset] <;> (have h' := h; try simp only [bl] at h'))
         | (refine v_cond rfl (fun h => ?_) (fun h => ?_) <;> first | (exact Bool.noConfusion h) | (have h' := h; try simp only [bl] at h'))
         | (refine r_ret ?_; simp only [resL, resA, Tryz.f45, lk_cons', lk_nil', Nat.reduceBEq]; first | exact ⟨rfl, Sb.nil _, rfl⟩ | refine ⟨rfl, sbt ?_, rfl⟩ | refine ⟨rfl, Sb.of_eq ?_, rfl⟩)
         | (refine And.intro (by first | exact True.intro | omega | rfl | exact Nat.le_of_ble_eq_true rfl | (simp only [lnn]; omega) | exact List.forall_mem_nil _ | (refine List.forall_mem_cons.2 ⟨⟨_, rfl⟩, ?_⟩; repeat' first | exact List.forall_mem_nil _ | refine List.forall_mem_cons.2 ⟨⟨_, rfl⟩, ?_⟩)) ?_)
         | ((first | refine call_pure' (k2) rfl ?_ | refine call_pure' (c_within _ _ _) rfl ?_); simp only [go_sem,simprocAttr,hd2,n0,hL,hls,g2,ints3,spl3,spl2,e1,e2,← hag,hset_at,hset_hset])
         | fail
        all_goals try (exfalso; omega)
        refine ⟨(k + 1, Y + 1 + 1), ?_, by (first | omega | (dsimp only; omega)), by (first | omega | (dsimp only; omega))⟩
        dsimp only
        rw [hsu]
        exact ent_rows _ (by (repeat' first | exact trivial | refine ⟨?_, ?_⟩ | rfl)) rfl trivial (Nat.le_refl _)
    · obtain rfl : k = l.length := by omega
      have hd2 : decide ((l.length : Int) < l.length) = false := decide_eq_false (by omega)
      have hms : mostT l (i + 1) = bif decide ((mostT l i).2 < agT l (gl l i).lo l.length) || (agT l (gl l i).lo l.length == (mostT l i).2 && decide ((gl l i).lo < (mostT l i).1)) then ((gl l i).lo, agT l (gl l i).lo l.length) else mostT l i := rfl
      cases c1 : decide ((mostT l i).2 < agT l (gl l i).lo l.length) <;> cases c2 : (agT l (gl l i).lo l.length == (mostT l i).2) <;> cases c3 : decide ((gl l i).lo < (mostT l i).1)
      all_goals
        rw [c1, c2, c3] at hms
        simp only [Bool.or_true, Bool.true_or, Bool.or_false, Bool.false_or, Bool.and_true, Bool.and_false, Bool.false_and, Bool.true_and, cond_true, cond_false] at hms
        repeat' first
         | refine v_seq ?_ | refine v_block ?_ | refine v_ret ?_ | refine v_skip ?_ | (refine v_exit ?_; repeat' first | refine xB_eq ?_ | refine xB_ne rfl ?_)
         | ((first | refine rgA fun K hK => ?_ | refine rgB rfl fun K hK => ?_ | refine rgC rfl fun K hK => ?_); simp only [go_sem,simprocAttr,hd2,hls,c1,c2,c3,hset_at,hset_hset])
         | (simp (disch := first | omega | rfl | (simp only [lnn]; omega)) only [spl])
         | (refine hK _ ?_; clear hK K)
         | (refine gdB_intro (fun h => ?_) (fun h => ?_) <;> simp only [go_sem,simprocAttr,h,hd2,hls,c1,c2,c3,hset_at,hset_hset] <;> (have h' := h; try simp only [bl] at h'))
         | (refine v_cond rfl (fun h => ?_) (fun h => ?_) <;> first | (exact Bool.noConfusion h) | (have h' := h; try simp only [bl] at h'))
         | (refine r_ret ?_; simp only [resL, resA, Tryz.f45, lk_cons', lk_nil', Nat.reduceBEq]; first | exact ⟨rfl, Sb.nil _, rfl⟩ | refine ⟨rfl, sbt ?_, rfl⟩ | refine ⟨rfl, Sb.of_eq ?_, rfl⟩)
         | (refine And.intro (by first | exact True.intro | omega | rfl | exact Nat.le_of_ble_eq_true rfl | (simp only [lnn]; omega) | exact List.forall_mem_nil _ | (refine List.forall_mem_cons.2 ⟨⟨_, rfl⟩, ?_⟩; repeat' first | exact List.forall_mem_nil _ | refine List.forall_mem_cons.2 ⟨⟨_, rfl⟩, ?_⟩)) ?_)
         | fail
        refine ⟨(i + 1, Y), ?_, by (first | omega | (dsimp only; omega)), by (first | omega | (dsimp only; omega))⟩
        dsimp only
        rw [hms]
        exact ent_rows _ (by (repeat' first | exact trivial | refine ⟨?_, ?_⟩ | rfl)) rfl trivial (Nat.le_refl _)
  · obtain rfl : i = l.length := by omega
    have hd : decide ((l.length : Int) < l.length) = false := decide_eq_false (by omega)
    repeat' first
     | refine v_seq ?_ | refine v_block ?_ | refine v_ret ?_ | refine v_skip ?_ | (refine v_exit ?_; repeat' first | refine xB_eq ?_ | refine xB_ne rfl ?_)
     | ((first | refine rgA fun K hK => ?_ | refine rgB rfl fun K hK => ?_ | refine rgC rfl fun K hK => ?_); simp only [go_sem,simprocAttr,hd])
     | (simp (disch := first | omega | rfl | (simp only [lnn]; omega)) only [spl])
     | (refine hK _ ?_; clear hK K)
     | (refine gdB_intro (fun h => ?_) (fun h => ?_) <;> simp only [go_sem,simprocAttr,h,hd] <;> (have h' := h; try simp only [bl] at h'))
     | (refine v_cond rfl (fun h => ?_) (fun h => ?_) <;> first | (exact Bool.noConfusion h) | (have h' := h; try simp only [bl] at h'))
     | (refine r_ret ?_; simp only [resL, resA, Tryz.f45, lk_cons', lk_nil', Nat.reduceBEq]; first | exact ⟨rfl, Sb.nil _, rfl⟩ | refine ⟨rfl, sbt ?_, rfl⟩ | refine ⟨rfl, Sb.of_eq ?_, rfl⟩)
     | (refine And.intro (by first | exact True.intro | omega | rfl | exact Nat.le_of_ble_eq_true rfl | (simp only [lnn]; omega) | exact List.forall_mem_nil _ | (refine List.forall_mem_cons.2 ⟨⟨_, rfl⟩, ?_⟩; repeat' first | exact List.forall_mem_nil _ | refine List.forall_mem_cons.2 ⟨⟨_, rfl⟩, ?_⟩)) ?_)
     | fail
end Go.Proofs.YtabmhfmglhjmjaaGreatDoor

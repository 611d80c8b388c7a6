/- Parts of the proof, put together by a program. -/
import Derived.Test.YtabmhfmglhjmjaaGreatDoorUac
import Derived.Test.YtabmhfmglhjmjaaGreatDoorUad
import Derived.Test.YtabmhfmglhjmjaaGreatDoorUae
import Derived.Test.YtabmhfmglhjmjaaGreatDoorUaf
import Derived.Test.YtabmhfmglhjmjaaGreatDoorUaj
set_option linter.unusedSimpArgs false
set_option linter.unusedVariables false
set_option linter.unusedSectionVars false
namespace Go.Ab
variable [Dr]
open Go.RowKit
end Go.Ab
set_option linter.unusedSimpArgs false
set_option linter.unusedVariables false
set_option linter.unusedSectionVars false
namespace Go.Ab
variable [Dr]
open Go.RowKit
section
variable {E : Ev} {o : Oper} {ge : Operand → AV} {H : Hp} {nx : Nat} {K : AV → Prop}
def floC (o : Oper) : Bool := o.guard.isNone && match o.op with
  | .indexAddr _ _ _ => true
  | .fieldAddr _ _ _ => true
  | _ => floB o
theorem floC_guard (h : floC o = true) : o.guard = none := by
  simp only [floC, Bool.and_eq_true, Option.isNone_iff_eq_none] at h
  exact h.1
theorem floC_split (h : floC o = true) : floB o = true ∨ (∃ t x i, o.op = .indexAddr t x i) ∨ ∃ t x f, o.op = .fieldAddr t x f := by
  simp only [floC, Bool.and_eq_true] at h
  cases ho : o.op <;> rw [ho] at h <;> first | exact .inl h.2 | exact .inr (.inl ⟨_, _, _, rfl⟩) | exact .inr (.inr ⟨_, _, _, rfl⟩)
theorem floC_about (h : floC o = true) (P : Program) (w : World) (ev : Operand → Value) : o.about P w ev = none := by
  rcases floC_split h with h | ⟨_, _, _, h⟩ | ⟨_, _, _, h⟩
  · exact floB_about h P w ev
  · unfold Oper.about; rw [h]
  · unfold Oper.about; rw [h]
theorem floC_ok (hE : EvOk E) (hc : floC o = true) (h : sop E o ge H nx K) : ∃ r, Flo E.P o ge r ∧ K r := by
  rcases floC_split hc with hb | ⟨t, x, i, ho⟩ | ⟨t, x, f, ho⟩
  · obtain ⟨r, _, h2, h3⟩ := flo_ok hE h
    exact ⟨r, h2 hb, h3⟩
  · simp only [sop, ho] at h
    exact floIndex hE ho h
  · simp only [sop, ho] at h
    exact floField hE ho h
end
inductive OT where
  | nil
  | cons (i : Nat) (sub rest : OT)
def OT.idx : OT → List Nat
  | .nil => []
  | .cons i _ rest => i :: rest.idx
def OT.isNil : OT → Bool
  | .nil => true
  | .cons _ _ _ => false
def kidsB (ops : Array Oper) : OT → Array Bool → Bool
  | .nil, _ => true
  | .cons i sub rest, L => (sub.idx == Region.ready .any ops (L.setIfInBounds i true)) && kidsB ops sub (L.setIfInBounds i true) && kidsB ops rest L
def wpK (E : Ev) (mu : List Nat) (ops : Array Oper) : OT → St → (St → Prop) → Prop
  | .nil, _, _ => True
  | .cons i sub rest, σ, K => (match ops[i]? with
    | some o => wpA E mu ops [o] σ fun σ' => bif sub.isNil then K σ' else wpK E mu ops sub σ' K
    | none => False) ∧ wpK E mu ops rest σ K
theorem wpK_nil {E : Ev} {mu : List Nat} {ops : Array Oper} {σ : St} {K : St → Prop} : wpK E mu ops .nil σ K := True.intro
theorem wpK_cons {E : Ev} {mu : List Nat} {ops : Array Oper} {σ : St} {K : St → Prop} {i : Nat} {sub rest : OT} {o : Oper} (ho : ops[i]? = some o)
    (h1 : wpA E mu ops [o] σ fun σ' => bif sub.isNil then K σ' else wpK E mu ops sub σ' K) (h2 : wpK E mu ops rest σ K) : wpK E mu ops (.cons i sub rest) σ K := ⟨by rw [ho]; exact h1, h2⟩
section
variable {E : Ev} {mu : List Nat} {ops : Array Oper} {Q : Exit → Act → World → Prop}
theorem kids_get {K : St → Prop} {i : Nat} {L : Array Bool} {σ : St} : ∀ {t : OT}, kidsB ops t L = true → wpK E mu ops t σ K → i ∈ t.idx →
    ∃ sub o, ops[i]? = some o ∧ wpA E mu ops [o] σ (fun σ' => bif sub.isNil then K σ' else wpK E mu ops sub σ' K) ∧ sub.idx = Region.ready .any ops (L.setIfInBounds i true) ∧ kidsB ops sub (L.setIfInBounds i true) = true
  | .cons j sub rest, hb, hw, hi => by
    simp only [kidsB, Bool.and_eq_true, beq_iff_eq] at hb
    obtain ⟨⟨b1, b2⟩, b3⟩ := hb
    obtain ⟨w1, w2⟩ := hw
    rcases List.mem_cons.1 hi with e | e
    · subst e
      cases ho : ops[i]? with
      | none => rw [ho] at w1; exact w1.elim
      | some o => rw [ho] at w1; exact ⟨sub, o, rfl, w1, b1, b2⟩
    · exact kids_get b3 w2 e
theorem count_set {L : Array Bool} {i : Nat} (hi : i < L.size) (hu : L.getD i true = false) : (L.setIfInBounds i true).toList.countP (· == true) = L.toList.countP (· == true) + 1 := by
  have hli : L.toList[i]'(by simpa using hi) = false := by
    rw [Array.getD_eq_getD_getElem?, Array.getElem?_eq_getElem hi] at hu
    simpa using hu
  rw [Array.toList_setIfInBounds, List.countP_set (h := by simpa using hi), hli]
  simp
theorem none_left {L : Array Bool} (hs : L.size = ops.size) (h : ops.size ≤ L.toList.countP (· == true)) : Region.ready .any ops L = [] := by
  cases hr : Region.ready .any ops L with
  | nil => rfl
  | cons i rest =>
    obtain ⟨o, ho, hu, _⟩ := ready_pred (L := L) (i := i) (by rw [hr]; simp)
    have hi : i < L.size := by rw [hs]; exact (Array.getElem?_eq_some_iff.1 ho).1
    have h1 : L.toList.countP (· == true) = L.toList.length := by
      have := List.countP_le_length (p := (· == true)) (l := L.toList)
      have h2 : L.toList.length = ops.size := by rw [Array.length_toList, hs]
      omega
    rw [List.countP_eq_length] at h1
    have := h1 L[i] (by simp)
    rw [Array.getD_eq_getD_getElem?, Array.getElem?_eq_getElem hi] at hu
    simp at hu this
    rw [hu] at this
    cases this
theorem tree_any (hE : EvOk E) (hY : YOk E) {K : St → Prop} : ∀ (fuel : Nat) (L : Array Bool) (t : OT) (σ : St) (g : Gh) (β : Bt) (O : Nat → Prop) (a : Act) (w : World), Fit E g σ → Cn g β O σ a w → t.idx = Region.ready .any ops L → kidsB ops t L = true → L.size = ops.size →
    ops.size ≤ fuel + L.toList.countP (· == true) → (bif t.isNil then K σ else wpK E mu ops t σ K) → (∀ a' w', NxtP E g K a' w' → Q .normal a' w') → wpAnyIn (Fn E.ro) 0 E.P .any ops Q fuel L a w := by
  intro fuel
  have fin : ∀ (t : OT) (L : Array Bool) (σ : St) (g : Gh) (β : Bt) (O : Nat → Prop) (a : Act) (w : World), Region.ready .any ops L = [] → t.idx = Region.ready .any ops L → Fit E g σ → Cn g β O σ a w → (bif t.isNil then K σ else wpK E mu ops t σ K) → (∀ a' w', NxtP E g K a' w' → Q .normal a' w') → Q .normal a w := by
    intro t L σ g β O a w hr hidx hf hc hw hK
    rw [hr] at hidx
    cases t with
    | nil => exact hK a w ⟨g, β, O, σ, Le.refl _ _, hf, hw, hc⟩
    | cons i s r => cases hidx
  induction fuel with
  | zero =>
    intro L t σ g β O a w hf hc hidx hb hs hcount hw hK
    have hr := none_left hs (by omega)
    exact ⟨hr, fin t L σ g β O a w hr hidx hf hc hw hK⟩
  | succ fuel ih =>
    intro L t σ g β O a w hf hc hidx hb hs hcount hw hK
    refine ⟨fun hr => fin t L σ g β O a w hr hidx hf hc hw hK, fun i hi => ?_⟩
    have hw' : wpK E mu ops t σ K := by
      cases t with
      | nil => rw [← hidx] at hi; cases hi
      | cons _ _ _ => exact hw
    obtain ⟨sub, o, ho, h1, h2, h3⟩ := kids_get hb hw' (by rw [hidx]; exact hi)
    have h4 := opS_ok (Q := Q) hE hY hf hc (show opS E mu ops o σ _ from h1)
    have h5 : wpOpIn (Fn E.ro) 0 E.P ops Q i (NxtP E g fun σ' => wpA E mu ops [] σ' fun σ' => bif sub.isNil then K σ' else wpK E mu ops sub σ' K) a w := by
      unfold wpOpIn
      rw [ho]
      exact h4
    have hisz : i < L.size := by rw [hs]; exact (Array.getElem?_eq_some_iff.1 ho).1
    have hu := (mem_ready.1 hi).1
    refine wpOpIn_mono (fun a' w' ⟨g', β', O', σ', hl, hf', h6, hc'⟩ => ?_) h5
    refine ih _ sub σ' g' β' O' a' w' hf' hc' h2 h3 (by simpa using hs) (by rw [count_set hisz hu]; omega) h6 fun a'' w'' ⟨g'', β'', O'', σ'', hl', h7⟩ => hK a'' w'' ⟨g'', β'', O'', σ'', hl.trans hl', h7⟩
def firstB (mu : List Nat) (ops : Array Oper) : List Nat → Array Bool → Bool
  | [], _ => true
  | i :: fs, L => (match ops[i]? with
    | none => false
    | some oi => floC oi && !isMut mu oi && (Region.ready .any ops L).contains i && (List.range ops.size).all fun j => j == i || L.getD j true || (match ops[j]? with
      | none => true
      | some oj => oj.after.toList.any (fun e => Region.binds .any e && e.on == i) || oi.apart ops oj)) && firstB mu ops fs (L.setIfInBounds i true)
def listed (fs : List Nat) (L : Array Bool) : Array Bool := fs.foldl (fun L i => L.setIfInBounds i true) L
theorem first_any (hE : EvOk E) (hro : E.ro = none) (hsel : ∀ (j : Nat) (o : Oper) cs b, ops[j]? = some o → o.op ≠ .select cs b) (hQ : ∀ c a w, ¬ Q (.panic c) a w) {K1 : St → Prop} {g : Gh} :
    ∀ (fs : List Nat) (L : Array Bool) (fuel : Nat) (σ : St) (β : Bt) (O : Nat → Prop) (a : Act) (w : World), Fit E g σ → Cn g β O σ a w → firstB mu ops fs L = true → L.size = ops.size → ops.size ≤ fuel + L.toList.countP (· == true) →
      wpA E mu ops (fs.filterMap fun i => ops[i]?) σ K1 → (∀ fuel' σ' β' O' a' w', ops.size ≤ fuel' + (listed fs L).toList.countP (· == true) → (listed fs L).size = ops.size → Fit E g σ' → Cn g β' O' σ' a' w' → K1 σ' → wpAnyIn (Fn E.ro) 0 E.P .any ops Q fuel' (listed fs L) a' w') →
      wpAnyIn (Fn E.ro) 0 E.P .any ops Q fuel L a w
  | [], L, fuel, σ, β, O, a, w, hf, hc, _, hs, hcount, h, hn => hn fuel σ β O a w hcount hs hf hc h
  | i :: fs, L, fuel, σ, β, O, a, w, hf, hc, hb, hs, hcount, h, hn => by
    simp only [firstB, Bool.and_eq_true] at hb
    obtain ⟨hb1, hb2⟩ := hb
    cases ho : ops[i]? with
    | none => rw [ho] at hb1; cases hb1
    | some o =>
      rw [ho] at hb1
      simp only [Bool.and_eq_true, Bool.not_eq_true', List.all_eq_true, List.mem_range, Bool.or_eq_true, beq_iff_eq, List.contains_iff_mem] at hb1
      obtain ⟨⟨⟨c1, c2⟩, c3⟩, c4⟩ := hb1
      simp only [List.filterMap_cons, ho] at h
      obtain ⟨hd, h⟩ := h
      unfold gd at h
      rw [floC_guard c1] at h
      dsimp only at h
      rw [c2, cond_false] at h
      obtain ⟨r, hF, h⟩ := floC_ok hE c1 h
      obtain ⟨u, hrun, hru⟩ := hF β O w a.eval (fun x _ => hc.ge x)
      have hisz : i < L.size := by rw [hs]; exact (Array.getElem?_eq_some_iff.1 ho).1
      have hu := (mem_ready.1 c3).1
      have hwant : Region.wanted o (yielded ops a.tmps) = true := by simp [Region.wanted, floC_guard c1]
      have hnext := first_any hE hro hsel hQ fs (L.setIfInBounds i true) (fuel - 1) (σ.put o.dst r) β O (a.put o.dst u) w (hf.n (put_n _ _ _)) (Cn.put hd hru hc) hb2 (by simpa using hs) (by rw [count_set hisz hu]; omega) h hn
      cases fuel with
      | zero =>
        have := none_left hs (by omega)
        rw [this] at c3
        cases c3
      | succ fuel =>
        refine wpAnyIn_first (oi := o) (v := u) (by rw [Fn_round]; exact hro) ho hsel (fun c a w hq => absurd hq (hQ c _ w)) fuel L a w (fun j oj hj hji hun hno => ?_) c3 ⟨.inl ⟨hwant, hrun⟩, fun w => floC_about c1 E.P w _⟩ hnext
        rcases c4 j (Array.getElem?_eq_some_iff.1 hj).1 with (h1 | h1) | h1
        · exact absurd h1 hji
        · rw [hun] at h1; cases h1
        · rw [hj] at h1
          simp only [Bool.or_eq_true, List.any_eq_true, Bool.and_eq_true, beq_iff_eq] at h1
          rcases h1 with ⟨e, he, h2, h3⟩ | h1
          · exact absurd h3 (hno e (by simpa using he) h2)
          · exact h1
end
def treeB (mu : List Nat) (l : List Oper) (fs : List Nat) (t : OT) : Bool :=
  noSel l && firstB mu l.toArray fs (Array.replicate l.length false) && (t.idx == Region.ready .any l.toArray (listed fs (Array.replicate l.length false))) && kidsB l.toArray t (listed fs (Array.replicate l.length false))
theorem vc_drawT {E : Ev} {mu : List Nat} {Q : Post} {σ : St} (hE : EvOk E) (hro : E.ro = none) {id : Nat} {l : List Oper} (fs : List Nat) (t : OT) (hb : treeB mu l fs t = true)
    (h : ∀ K : St → Prop, (∀ σ', Q.n σ' → K σ') → wpA E mu l.toArray (fs.filterMap fun i => l.toArray[i]?) σ fun σ1 => bif t.isNil then K σ1 else wpK E mu l.toArray t σ1 K) : VC E mu (.region id l.toArray true) Q σ := by
  intro hY g β O a w hf hc
  simp only [treeB, Bool.and_eq_true, beq_iff_eq] at hb
  obtain ⟨⟨⟨b1, b2⟩, b3⟩, b4⟩ := hb
  refine wpIn_region_any hE.mix ?_
  have hdrew : Gr w { w with drawn := w.drawn + 1 } := (Gr.refl _).drew
  have hsel : ∀ (j : Nat) (o : Oper) cs b, l.toArray[j]? = some o → o.op ≠ .select cs b := fun j o cs b ho e => by
    unfold noSel at b1
    rw [List.all_eq_true] at b1
    have hm : o ∈ l := by
      have := List.mem_of_getElem? (show l[j]? = some o by simpa using ho)
      exact this
    have := b1 o hm
    rw [e] at this
    cases this
  refine first_any (Q := PC E g Q) (mu := mu) hE hro hsel (fun c a w hq => hq) fs (Array.replicate l.length false) l.toArray.size σ β O a _ hf (hc.gr hdrew) b2 (by simp) (by omega) (h Q.n fun _ h => h) fun fuel' σ' β' O' a' w' f1 f2 f3 f4 f5 => ?_
  exact tree_any hE hY fuel' _ t σ' g β' O' a' w' f3 f4 b3 b4 f2 f1 f5 fun a'' w'' hq => hq
theorem v_drawT {E : Ev} {mu : List Nat} {N : St → Prop} {X : Nat → St → Prop} {R : St → Prop} {σ : St} (hE : EvOk E) (hro : E.ro = none) {id : Nat} {l : List Oper} (fs : List Nat) (t : OT) (hb : treeB mu l fs t = true)
    (h : ∀ K : St → Prop, (∀ σ', N σ' → K σ') → wpA E mu l.toArray (fs.filterMap fun i => l.toArray[i]?) σ fun σ1 => bif t.isNil then K σ1 else wpK E mu l.toArray t σ1 K) : VC E mu (.region id l.toArray true) ⟨N, X, R⟩ σ := vc_drawT hE hro fs t hb h
end Go.Ab
set_option linter.unusedSimpArgs false
set_option linter.unusedVariables false
set_option linter.unusedSectionVars false
namespace Go.Ab
variable [Dr]
open Go.RowKit
def ordG (lt : Nat) (ops : Array Oper) (h : Nat) : Bool :=
  let l := ops.toList
  let ms := ancs l []
  (decide (h ≤ ops.size) && noSel l && decide (lt < h) &&
  (List.range h).all fun k => match l[k]? with
    | none => true
    | some o => (preds o).all fun p => p != lt) &&
  (List.range ops.size).all fun i =>
    match l[i]? with
    | none => true
    | some o =>
      (preds o).all (fun p => decide (p < i)) &&
      (List.range i).all fun j =>
        match l[j]? with
        | none => true
        | some o' => (ms.getD i 0).testBit j || (decide (i < h) && o'.apart ops o) || (decide (j < h) && flB ops l (ms.getD j 0) j o' && o'.apart ops o) || (j == lt && decide (h ≤ i) && o'.apart ops o)
section
variable {lt : Nat} {ops : Array Oper} {h : Nat}
theorem ordG_le (hb : ordG lt ops h = true) : h ≤ ops.size := by
  simp only [ordG, Bool.and_eq_true, decide_eq_true_eq] at hb
  exact hb.1.1.1.1
theorem ordG_lt (hb : ordG lt ops h = true) : lt < h := by
  simp only [ordG, Bool.and_eq_true, decide_eq_true_eq] at hb
  exact hb.1.1.2
theorem ordG_sel (hb : ordG lt ops h = true) (j : Nat) (o : Oper) (cs : Array SelectCase) (b : Bool) (ho : ops[j]? = some o) : o.op ≠ .select cs b := by
  simp only [ordG, Bool.and_eq_true, decide_eq_true_eq] at hb
  have h1 := hb.1.1.1.2
  unfold noSel at h1
  rw [List.all_eq_true] at h1
  have hm : o ∈ ops.toList := by
    have := Array.mem_of_getElem? ho
    simpa using this
  intro e
  have := h1 o hm
  rw [e] at this
  cases this
theorem ordG_no (hb : ordG lt ops h = true) {k : Nat} {o : Oper} (hk : k < h) (ho : ops[k]? = some o) {e : Edge} (he : e ∈ o.after) (hbd : Region.binds .any e = true) : e.on ≠ lt := by
  simp only [ordG, Bool.and_eq_true, List.all_eq_true, List.mem_range] at hb
  have h1 := hb.1.2 k hk
  have ho' : ops.toList[k]? = some o := by simpa using ho
  rw [ho'] at h1
  simp only [List.all_eq_true] at h1
  have := h1 e.on (by unfold preds; exact List.mem_map.2 ⟨e, List.mem_filter.2 ⟨by simpa using he, hbd⟩, rfl⟩)
  simpa using this
theorem ordG_pred (hb : ordG lt ops h = true) {i : Nat} {o : Oper} (ho : ops[i]? = some o) {e : Edge} (he : e ∈ o.after) (hbd : Region.binds .any e = true) : e.on < i := by
  simp only [ordG, Bool.and_eq_true, List.all_eq_true, List.mem_range] at hb
  have hi : i < ops.size := (Array.getElem?_eq_some_iff.1 ho).1
  have h1 := hb.2 i hi
  have ho' : ops.toList[i]? = some o := by simpa using ho
  rw [ho'] at h1
  simp only [Bool.and_eq_true, List.all_eq_true] at h1
  have := h1.1 e.on (by unfold preds; exact List.mem_map.2 ⟨e, List.mem_filter.2 ⟨by simpa using he, hbd⟩, rfl⟩)
  simpa using this
theorem ordG_pair (hb : ordG lt ops h = true) {i j : Nat} {o o' : Oper} (ho : ops[i]? = some o) (ho' : ops[j]? = some o') (hji : j < i) :
    ((ancs ops.toList []).getD i 0).testBit j = true ∨ (i < h ∧ o'.apart ops o = true) ∨ (j < h ∧ flB ops ops.toList ((ancs ops.toList []).getD j 0) j o' = true ∧ o'.apart ops o = true) ∨ (j = lt ∧ h ≤ i ∧ o'.apart ops o = true) := by
  simp only [ordG, Bool.and_eq_true, List.all_eq_true, List.mem_range] at hb
  have hi : i < ops.size := (Array.getElem?_eq_some_iff.1 ho).1
  have h1 := hb.2 i hi
  have ho1 : ops.toList[i]? = some o := by simpa using ho
  have ho2 : ops.toList[j]? = some o' := by simpa using ho'
  rw [ho1] at h1
  simp only [Bool.and_eq_true, List.all_eq_true, List.mem_range] at h1
  have h2 := h1.2 j hji
  rw [ho2] at h2
  simp only [Bool.or_eq_true, Bool.and_eq_true, decide_eq_true_eq, beq_iff_eq] at h2
  rcases h2 with ((h2 | h2) | h2) | h2
  · exact .inl h2
  · exact .inr (.inl h2)
  · exact .inr (.inr (.inl ⟨h2.1.1, h2.1.2, h2.2⟩))
  · exact .inr (.inr (.inr ⟨h2.1.1, h2.1.2, h2.2⟩))
theorem closed_ancG (hb : ordG lt ops h = true) {L : Array Bool} (hc : Closed ops L) : ∀ (i : Nat) (o : Oper), ops[i]? = some o → (∀ e ∈ o.after, Region.binds .any e = true → L.getD e.on false = true) →
    ∀ j, ((ancs ops.toList []).getD i 0).testBit j = true → L.getD j false = true := by
  intro i
  induction i using Nat.strongRecOn with
  | _ i ih =>
    intro o ho hp j hj
    obtain ⟨ms', h1, h2, h3⟩ := ancs_at ops.toList [] i o (by simpa using ho)
    simp only [List.length_nil, Nat.zero_add] at h1 h2 h3
    rw [h1] at hj
    obtain ⟨p, hpm, hjp⟩ := orAll_bit _ _ _ hj
    unfold preds at hpm
    obtain ⟨e, hem, rfl⟩ := List.mem_map.1 hpm
    obtain ⟨he, hbd⟩ := List.mem_filter.1 hem
    have he' : e ∈ o.after := by simpa using he
    have hlt := ordG_pred hb ho he' hbd
    have hl := hp e he' hbd
    rcases hjp with rfl | hjp
    · exact hl
    · rw [h3 _ hlt] at hjp
      have hsz : e.on < ops.size := by
        have : i < ops.size := (Array.getElem?_eq_some_iff.1 ho).1
        omega
      exact ih e.on hlt _ (Array.getElem?_eq_getElem hsz) (hc.2 _ _ (Array.getElem?_eq_getElem hsz) hl) j hjp
theorem ready_of_leftG (hb : ordG lt ops h = true) {L : Array Bool} (hs : L.size = ops.size) : ∀ (i : Nat), i < ops.size → L.getD i false = false → Region.ready .any ops L ≠ [] := by
  intro i
  induction i using Nat.strongRecOn with
  | _ i ih =>
    intro hi hl
    by_cases hp : ∃ e ∈ (ops[i]).after, Region.binds .any e = true ∧ L.getD e.on false = false
    · obtain ⟨e, he, hbd, hf⟩ := hp
      have hlt := ordG_pred hb (Array.getElem?_eq_getElem hi) he hbd
      exact ih e.on hlt (by omega) hf
    · intro hr
      have : i ∈ Region.ready .any ops L := mem_ready.2 ⟨by rw [getD_two (by omega) true false]; exact hl, ops[i], Array.getElem?_eq_getElem hi, fun e he hbd => by
        cases hq : L.getD e.on false with
        | true => rfl
        | false => exact absurd ⟨e, he, hbd, hq⟩ hp⟩
      rw [hr] at this
      cases this
end
theorem tail_anyG {ro : Option Nat} {lt : Nat} {P : Program} {ops : Array Oper} {h : Nat} (hb : ordG lt ops h = true) {Q : Exit → Act → World → Prop} : ∀ (l : List Oper) (k fuel : Nat) (L : Array Bool) (a : Act) (w : World), h ≤ k → (∀ j, l[j]? = ops[k + j]?) →
    Closed ops L → (∀ i, i < ops.size → L.getD i false = decide (i < k)) → l.length ≤ fuel → wpListIn (Fn ro) 0 P ops Q l a w → wpAnyIn (Fn ro) 0 P .any ops Q fuel L a w := by
  intro l
  induction l with
  | nil =>
    intro k fuel L a w hk hl hc hL hf hw
    have hsz : ops.size ≤ k := by
      rcases Nat.lt_or_ge k ops.size with h' | h'
      · have := hl 0
        simp [h'] at this
      · exact h'
    have hnone : Region.ready .any ops L = [] := by
      cases hr : Region.ready .any ops L with
      | nil => rfl
      | cons i rest =>
        obtain ⟨o, ho, hu, _⟩ := ready_pred (L := L) (i := i) (by rw [hr]; simp)
        have hi : i < ops.size := (Array.getElem?_eq_some_iff.1 ho).1
        rw [getD_two (by rw [hc.1]; exact hi) true false, hL i hi] at hu
        simp at hu
        omega
    cases fuel with
    | zero => exact ⟨hnone, hw⟩
    | succ fuel => exact ⟨fun _ => hw, fun i hi => by rw [hnone] at hi; cases hi⟩
  | cons o l ih =>
    intro k fuel L a w hk hl hc hL hf hw
    have hok : ops[k]? = some o := by simpa using (hl 0).symm
    have hksz : k < ops.size := (Array.getElem?_eq_some_iff.1 hok).1
    cases fuel with
    | zero => simp at hf
    | succ fuel =>
      refine ⟨fun hn => absurd hn (ready_of_leftG hb hc.1 k hksz (by rw [hL k hksz]; simp)), fun i hi => ?_⟩
      obtain ⟨oi, hoi, hu, hp⟩ := ready_pred hi
      have hisz : i < ops.size := (Array.getElem?_eq_some_iff.1 hoi).1
      rw [getD_two (by rw [hc.1]; exact hisz) true false, hL i hisz] at hu
      have hki : k ≤ i := by simpa using hu
      have hik : i = k := by
        rcases Nat.lt_or_ge k i with hlt | hge
        · rcases ordG_pair hb hoi hok hlt with hbit | ⟨hbad, _⟩ | ⟨hbad, _⟩ | ⟨hbad, _⟩
          · have := closed_ancG hb hc i oi hoi hp k hbit
            rw [hL k hksz] at this
            simp at this
          · omega
          · omega
          · have := ordG_lt hb; omega
        · omega
      subst hik
      rw [hok] at hoi
      cases hoi
      unfold wpOpIn
      rw [hok]
      simp only
      have next : ∀ a' w', wpListIn (Fn ro) 0 P ops Q l a' w' → wpAnyIn (Fn ro) 0 P .any ops Q fuel (L.setIfInBounds i true) a' w' := fun a' w' h' =>
        ih (i + 1) fuel _ a' w' (by omega) (fun j => by have := hl (j + 1); simp only [List.getElem?_cons_succ] at this; rw [this]; congr 1; omega) (closed_set hc hi) (fun j hj => by
          rw [Array.getD_eq_getD_getElem?, Array.getElem?_setIfInBounds]
          split
          · rename_i e; subst e; rw [if_pos (by rw [hc.1]; exact hj)]; simp
          · rename_i e
            rw [← Array.getD_eq_getD_getElem?, hL j hj]
            have : (j < i) ↔ (j < i + 1) := by omega
            simp [this]) (by simp at hf; omega) h'
      unfold wpListIn at hw
      split
      · rename_i hwd
        rw [if_pos hwd] at hw
        exact Oper.wpIn_mono next hw
      · rename_i hwd
        rw [if_neg hwd] at hw
        exact ⟨hw.1, next _ _ hw.2⟩
theorem head_late {ro : Option Nat} {lt : Nat} (hro : ro = none) {P : Program} {ops : Array Oper} {h : Nat} (hb : ordG lt ops h = true) {Q : Exit → Act → World → Prop} {g : Gh} {β : Bt} {O : Nat → Prop} {H : Hp} {nx : Nat} {n : Nat × Nat × Nat} {f : Nat → Option AV} {rs : List AV}
    (hQ : ∀ c a w, ¬ Q (.panic c) a w) (hlex : Lex P ops H nx n (ops.toList.take h) f rs) (htail : ∀ a w, Cf g β O (foldX (fun _ => true) 0 (ops.toList.take h) rs f) H nx n a w → wpListIn (Fn ro) 0 P ops Q (ops.toList.drop h) a w)
    (hlate : ∀ (fuel : Nat) (L : Array Bool) (a : Act) (w : World), L.size = ops.size → (∀ i, i < ops.size → L.getD i false = decide (i < h ∧ i ≠ lt)) → ops.size ≤ fuel + (L.toList.countP (· == true)) → Cf g β O (foldX (fun i => i != lt) 0 (ops.toList.take h) rs f) H nx n a w → wpAnyIn (Fn ro) 0 P .any ops Q fuel L a w) :
    ∀ (fuel : Nat) (L : Array Bool) (a : Act) (w : World), Closed ops L → (∀ i, h ≤ i → L.getD i false = false) → ops.size ≤ fuel + (L.toList.countP (· == true)) →
      Cf g β O (foldX (fun i => L.getD i false) 0 (ops.toList.take h) rs f) H nx n a w → wpAnyIn (Fn ro) 0 P .any ops Q fuel L a w := by
  obtain ⟨hlen, hat⟩ := hlex.at 0
  have hle := ordG_le hb
  have hget : ∀ i, i < h → ∀ o, ops[i]? = some o → (ops.toList.take h)[i]? = some o := fun i hi o ho => by
    rw [List.getElem?_take_of_lt hi]; simpa using ho
  intro fuel
  induction fuel with
  | zero =>
    intro L a w hc hhead hcount hcf
    have hall : ∀ i, i < ops.size → L.getD i false = true := by
      intro i hi
      have h1 : L.toList.countP (· == true) = L.toList.length := by
        have := List.countP_le_length (p := (· == true)) (l := L.toList)
        have h2 : L.toList.length = ops.size := by rw [Array.length_toList, hc.1]
        omega
      rw [List.countP_eq_length] at h1
      have hi' : i < L.size := by rw [hc.1]; exact hi
      have := h1 L[i] (by simp)
      rw [Array.getD_eq_getD_getElem?, Array.getElem?_eq_getElem hi']
      simpa using this
    have hh : h = ops.size := by
      rcases Nat.lt_or_ge h ops.size with h' | h'
      · have h1 := hall h h'
        rw [hhead h (Nat.le_refl _)] at h1
        cases h1
      · omega
    refine tail_anyG hb [] ops.size 0 L a w (by omega) (fun j => by simp) hc (fun i hi => by rw [hall i hi]; simp [hi]) (by simp) ?_
    have := htail a w (by
      rw [foldX_congr (X := fun _ => true) (Y := fun i => L.getD i false) _ _ _ _ (fun i _ hi => by
        rw [hall i (by simp at hi; omega)])]
      exact hcf)
    rwa [List.drop_of_length_le (by simp; omega)] at this
  | succ fuel ih =>
    intro L a w hc hhead hcount hcf
    by_cases hall : ∀ i, i < h → L.getD i false = true
    · -- the head is done: the tail
      have hL : ∀ i, i < ops.size → L.getD i false = decide (i < h) := by
        intro i hi
        by_cases hih : i < h
        · rw [hall i hih]; simp [hih]
        · rw [hhead i (by omega)]; simp [hih]
      have hcnt : L.toList.countP (· == true) ≤ h := by
        have e : L.toList = (L.toList.take h) ++ (L.toList.drop h) := (List.take_append_drop h _).symm
        rw [e, List.countP_append]
        have h1 : (L.toList.take h).countP (· == true) ≤ h := Nat.le_trans (List.countP_le_length) (by rw [List.length_take]; exact Nat.min_le_left _ _)
        have h2 : (L.toList.drop h).countP (· == true) = 0 := by
          rw [List.countP_eq_zero]
          intro x hx
          obtain ⟨i, hi⟩ := List.mem_iff_getElem?.1 hx
          rw [List.getElem?_drop] at hi
          have h3 := hhead (h + i) (by omega)
          rw [Array.getD_eq_getD_getElem?, ← Array.getElem?_toList, hi] at h3
          simpa using h3
        omega
      refine tail_anyG hb (ops.toList.drop h) h (fuel + 1) L a w (Nat.le_refl _) (fun j => by rw [List.getElem?_drop]; simp) hc hL (by simp; omega) (htail a w ?_)
      rw [foldX_congr (X := fun _ => true) (Y := fun i => L.getD i false) _ _ _ _ (fun i _ hi => by
        rw [hall i (by simp at hi; omega)])]
      exact hcf
    · have hne : ∃ i, i < h ∧ L.getD i false = false := by
        apply Classical.byContradiction
        intro hcon
        exact hall fun i hi => by
          cases hq : L.getD i false with
          | true => rfl
          | false => exact absurd ⟨i, hi, hq⟩ hcon
      obtain ⟨m, hm, hml⟩ := hne
      have see : ∀ i o, i < h → ops[i]? = some o → L.getD i true = false → (∀ e ∈ o.after, Region.binds .any e = true → L.getD e.on false = true) → ∃ r, rs[i]? = some r ∧ dOk n o.dst ∧ Yf P ops H nx o (foldX (fun i => L.getD i false) 0 (ops.toList.take h) rs f) r := by
        intro i o hih ho hu hp
        have hisz : i < ops.size := (Array.getElem?_eq_some_iff.1 ho).1
        have huf : L.getD i false = false := by rw [getD_two (by rw [hc.1]; exact hisz) false true]; exact hu
        obtain ⟨r, hr, hd, hy⟩ := hat i o (hget i hih o ho)
        have hsame : ∀ t, t ∈ o.looksAt ops → foldX (fun j => decide (j < 0 + i)) 0 (ops.toList.take h) rs f t = foldX (fun i => L.getD i false) 0 (ops.toList.take h) rs f t := by
          refine fun t ht => ?_
          refine foldX_at _ _ _ _ _ (fun j oj hj hdst => ?_) rfl
          simp only [Nat.zero_add]
          have hjh : j < h := by
            have := (List.getElem?_eq_some_iff.1 hj).1
            simp at this; omega
          have hoj : ops[j]? = some oj := by
            rw [List.getElem?_take_of_lt hjh] at hj; simpa using hj
          rcases Nat.lt_trichotomy j i with hji | hji | hji
          · have e : decide (j < i) = true := by simpa using hji
            rw [e]
            rcases ordG_pair hb ho hoj hji with hbit | ⟨_, hap⟩ | ⟨_, _, hap⟩ | ⟨_, hbad, _⟩
            · exact (closed_ancG hb hc i o ho hp j hbit).symm
            · exact absurd ht ((Oper.apart_spec hap).1 t hdst)
            · exact absurd ht ((Oper.apart_spec hap).1 t hdst)
            · omega
          · subst hji
            rw [huf]; simp
          · have e : decide (j < i) = false := by simp; omega
            rw [e]
            cases hq : L.getD j false with
            | false => rfl
            | true =>
              rcases ordG_pair hb hoj ho hji with hbit | ⟨_, hap⟩ | ⟨_, _, hap⟩ | ⟨_, hbad, _⟩
              · have := closed_ancG hb hc j oj hoj (hc.2 j oj hoj hq) i hbit
                rw [huf] at this
                cases this
              · exact absurd ht ((Oper.apart_spec hap).2.2 t hdst)
              · exact absurd ht ((Oper.apart_spec hap).2.2 t hdst)
              · omega
        exact ⟨r, hr, hd, hy.1.congr hsame, fun hfl => (hy.2 hfl).congr hsame⟩
      have next : ∀ i o r, i < h → ops[i]? = some o → i ∈ Region.ready .any ops L → rs[i]? = some r → ∀ a' w', Cf g β O (updF (foldX (fun i => L.getD i false) 0 (ops.toList.take h) rs f) o.dst r) H nx n a' w' → wpAnyIn (Fn ro) 0 P .any ops Q fuel (L.setIfInBounds i true) a' w' := by
        intro i o r hih ho hi hr a' w' hcf'
        have hisz : i < ops.size := (Array.getElem?_eq_some_iff.1 ho).1
        have hu := (mem_ready.1 hi).1
        have huf : L.getD i false = false := by rw [getD_two (by rw [hc.1]; exact hisz) false true]; exact hu
        refine ih _ a' w' (closed_set hc hi) (fun k hk => ?_) ?_ ?_
        · rw [Array.getD_eq_getD_getElem?, Array.getElem?_setIfInBounds_ne (by omega), ← Array.getD_eq_getD_getElem?]
          exact hhead k hk
        · have hi' : i < L.size := by rw [hc.1]; exact hisz
          have hcnt : (L.setIfInBounds i true).toList.countP (· == true) = L.toList.countP (· == true) + 1 := by
            have hli : L.toList[i]'(by simpa using hi') = false := by
              rw [Array.getD_eq_getD_getElem?, Array.getElem?_eq_getElem hi'] at huf
              simpa using huf
            rw [Array.toList_setIfInBounds, List.countP_set (h := by simpa using hi'), hli]
            simp
          rw [hcnt]; omega
        · have hcong : foldX (fun k => (L.setIfInBounds i true).getD k false) 0 (ops.toList.take h) rs f = foldX (fun k => L.getD k false || k == 0 + i) 0 (ops.toList.take h) rs f := by
            refine foldX_congr _ _ _ _ fun k _ hk => ?_
            rw [Array.getD_eq_getD_getElem?, Array.getElem?_setIfInBounds]
            by_cases hik : i = k
            · subst hik
              rw [if_pos rfl, if_pos (by rw [hc.1]; exact hisz)]
              simp
            · rw [if_neg hik, ← Array.getD_eq_getD_getElem?]
              have : (k == 0 + i) = false := by simp; omega
              rw [this, Bool.or_false]
          rw [hcong, foldX_put _ _ 0 i o r f _ (hget i hih o ho) hr (by simpa using huf) (fun j oj hj hij hX d hdo hdj => ?_)]
          · exact hcf'
          · simp only [Nat.zero_add] at hX
            have hjh : j < h := by
              have := (List.getElem?_eq_some_iff.1 hj).1
              simp at this; omega
            have hoj : ops[j]? = some oj := by
              rw [List.getElem?_take_of_lt hjh] at hj; simpa using hj
            rcases ordG_pair hb hoj ho hij with hbit | ⟨_, hap⟩ | ⟨_, _, hap⟩ | ⟨_, hbad, _⟩
            · have := closed_ancG hb hc j oj hoj (hc.2 j oj hoj hX) i hbit
              rw [huf] at this
              cases this
            · exact (Oper.apart_spec hap).2.1 d hdo hdj
            · exact (Oper.apart_spec hap).2.1 d hdo hdj
            · omega
      by_cases hfloat : ∃ i o, i < h ∧ ops[i]? = some o ∧ i ∈ Region.ready .any ops L ∧ flB ops ops.toList ((ancs ops.toList []).getD i 0) i o = true
      · -- one that does not look at memory: first
        obtain ⟨i, o, hih, ho, hi, hfb⟩ := hfloat
        obtain ⟨o', ho', hu, hp⟩ := ready_pred hi
        rw [ho] at ho'; cases ho'
        obtain ⟨r, hr, hd, hy, hF⟩ := see i o hih ho hu hp
        have hfo := flB_flo hfb
        obtain ⟨u, hrun, hru⟩ := hF hfo β O w a.eval (fun x _ => hcf.ge x)
        have hwant : Region.wanted o (yielded ops a.tmps) = true := by simp [Region.wanted, floB_guard hfo]
        refine wpAnyIn_first (oi := o) (v := u) (by rw [Fn_round]; exact hro) ho (ordG_sel hb) (fun c a w hq => absurd hq (hQ c _ w)) fuel L a w (fun j oj hj hji hun hno => ?_) hi ⟨.inl ⟨hwant, hrun⟩, fun w => floB_about hfo P w _⟩ ?_
        · rcases flB_spec hfb hj hji with h1 | ⟨e, he, hbd, hon⟩ | h1
          · have h2 := closed_ancG hb hc i o ho hp j h1
            rw [getD_two (by rw [hc.1]; exact (Array.getElem?_eq_some_iff.1 hj).1) false true, hun] at h2
            cases h2
          · exact absurd hon (hno e he hbd)
          · exact h1
        · exact next i o r hih ho hi hr _ _ (hcf.put hd hru)
      · by_cases hdone : ∀ k, k < h → k ≠ lt → L.getD k false = true
        · -- all but the late one: it may come behind what is not of the head
          have hml' : m = lt := Classical.byContradiction fun hne => by
            rw [hdone m hm hne] at hml; cases hml
          subst hml'
          refine hlate (fuel + 1) L a w hc.1 (fun i hi => ?_) hcount ?_
          · by_cases hih : i < h
            · by_cases him : i = m
              · subst him; rw [hml]; simp
              · rw [hdone i hih him]; simp [hih, him]
            · rw [hhead i (by omega)]; simp [hih]
          · rw [foldX_congr (X := fun i => i != m) (Y := fun i => L.getD i false) _ _ _ _ (fun i _ hi => ?_)]
            · exact hcf
            · have hih : i < h := by simp at hi; omega
              by_cases him : i = m
              · subst him; rw [hml]; simp
              · rw [hdone i hih him]; simpa using him
        · refine ⟨fun hn => absurd hn (ready_of_leftG hb hc.1 m (by omega) hml), fun i hi => ?_⟩
          obtain ⟨o, ho, hu, hp⟩ := ready_pred hi
          have hih : i < h := by
            rcases Nat.lt_or_ge i h with h' | h'
            · exact h'
            · exfalso
              obtain ⟨k0, hk0⟩ : ∃ k, k < h ∧ k ≠ lt ∧ L.getD k false = false := Classical.byContradiction fun hcon => hdone fun k hk hne => by
                cases hq : L.getD k false with
                | true => rfl
                | false => exact absurd ⟨k, hk, hne, hq⟩ hcon
              have hleft : ∀ m, m < h → m ≠ lt → L.getD m false = false → ∃ om, ops[m]? = some om ∧ flB ops ops.toList ((ancs ops.toList []).getD m 0) m om = true := by
                intro m hm hmt hml
                have hmo := Array.getElem?_eq_getElem (show m < ops.size by omega)
                rcases ordG_pair hb ho hmo (show m < i by omega) with hbit | ⟨hbad, _⟩ | ⟨_, h2, _⟩ | ⟨hbad, _⟩
                · have := closed_ancG hb hc i o ho hp m hbit
                  rw [hml] at this
                  cases this
                · omega
                · exact ⟨_, hmo, h2⟩
                · exact absurd hbad hmt
              have hfirst : ∀ m, m < h → m ≠ lt → L.getD m false = false → ∃ i o, i < h ∧ ops[i]? = some o ∧ i ∈ Region.ready .any ops L ∧ flB ops ops.toList ((ancs ops.toList []).getD i 0) i o = true := by
                intro m
                induction m using Nat.strongRecOn with
                | _ m ihm =>
                  intro hm hmt hml
                  obtain ⟨om, hom, h2⟩ := hleft m hm hmt hml
                  by_cases hp' : ∃ e ∈ om.after, Region.binds .any e = true ∧ L.getD e.on false = false
                  · obtain ⟨e, he, hbd, hf'⟩ := hp'
                    have hlt := ordG_pred hb hom he hbd
                    exact ihm e.on hlt (by omega) (ordG_no hb hm hom he hbd) hf'
                  · exact ⟨m, om, hm, hom, mem_ready.2 ⟨by rw [getD_two (by rw [hc.1]; omega) true false]; exact hml, om, hom, fun e he hbd => by
                      cases hq : L.getD e.on false with
                      | true => rfl
                      | false => exact absurd ⟨e, he, hbd, hq⟩ hp'⟩, h2⟩
              exact hfloat (hfirst k0 hk0.1 hk0.2.1 hk0.2.2)
          obtain ⟨r, hr, hd, hy, _⟩ := see i o hih ho hu hp
          have hop : opAt ro P ops Q o (wpAnyIn (Fn ro) 0 P .any ops Q fuel (L.setIfInBounds i true)) a w := hy.opAt hcf hd fun a' w' hcf' => next i o r hih ho hi hr a' w' hcf'
          unfold wpOpIn
          rw [ho]
          exact hop
theorem region_late {ro : Option Nat} {lt : Nat} (hro : ro = none) {P : Program} (hm : P.follows .mixedOrders = true) {ops : Array Oper} {h : Nat} (hb : ordG lt ops h = true) {id : Nat} {Q : Exit → Act → World → Prop} {g : Gh} {β : Bt} {O : Nat → Prop} {H : Hp} {nx : Nat} {n : Nat × Nat × Nat} {f : Nat → Option AV} {rs : List AV}
    (hQ : ∀ c a w, ¬ Q (.panic c) a w) (hlex : Lex P ops H nx n (ops.toList.take h) f rs) (htail : ∀ a w, Cf g β O (foldX (fun _ => true) 0 (ops.toList.take h) rs f) H nx n a w → wpListIn (Fn ro) 0 P ops Q (ops.toList.drop h) a w)
    (hlate : ∀ (fuel : Nat) (L : Array Bool) (a : Act) (w : World), L.size = ops.size → (∀ i, i < ops.size → L.getD i false = decide (i < h ∧ i ≠ lt)) → ops.size ≤ fuel + (L.toList.countP (· == true)) → Cf g β O (foldX (fun i => i != lt) 0 (ops.toList.take h) rs f) H nx n a w → wpAnyIn (Fn ro) 0 P .any ops Q fuel L a w)
    {a : Act} {w : World} (hc : Cf g β O f H nx n a w) : (Code.region id ops true).wpIn (Fn ro) 0 P Q a w := by
  refine wpIn_region_any hm ?_
  have hdrew : Gr w { w with drawn := w.drawn + 1 } := (Gr.refl _).drew
  have hrep : ∀ i, (Array.replicate ops.size false).getD i false = false := fun i => by
    rw [Array.getD_eq_getD_getElem?]
    simp only [Array.getElem?_replicate]
    split <;> rfl
  refine head_late hro hb hQ hlex htail hlate ops.size _ a _ ⟨by simp, fun i o _ hl => by rw [hrep] at hl; cases hl⟩ (fun i _ => hrep i) (by omega) ?_
  rw [foldX_none _ _ _ _ (fun i _ _ => hrep i)]
  exact hc.gr hdrew
theorem lk_filter {d0 : Nat} : ∀ {fr : List (Nat × AV)} {t : Nat} {av : AV}, lk (fr.filter fun p => p.1 != d0) t = some av → t ≠ d0 ∧ lk fr t = some av
  | [], t, av, h => by simp [lk_nil'] at h
  | (s, v) :: fr, t, av, h => by
    rw [List.filter_cons] at h
    by_cases hs : s = d0
    · subst hs
      simp only [bne_self_eq_false, Bool.false_eq_true, if_false] at h
      obtain ⟨h1, h2⟩ := lk_filter h
      refine ⟨h1, ?_⟩
      rw [lk_cons', show (s == t) = false by simpa using Ne.symm h1]
      exact h2
    · rw [if_pos (by simpa using hs), lk_cons'] at h
      rw [lk_cons']
      by_cases hst : s = t
      · subst hst
        rw [show (s == s) = true by simp] at h ⊢
        exact ⟨hs, h⟩
      · have e : (s == t) = false := by simpa using hst
        rw [e] at h ⊢
        exact lk_filter h
def lateL (n k lt : Nat) : Array Bool := ((List.range n).map fun i => decide (i < k ∧ i ≠ lt)).toArray
def drawL (mu : List Nat) (l : List Oper) (k lt d0 : Nat) (t : OT) : Bool :=
  ordG lt l.toArray k && ((l.take k).all fun o => !isMut mu o) && ((l.take k)[lt]?.map (·.dst) == some (some d0)) && (t.idx == Region.ready .any l.toArray (lateL l.length k lt)) && kidsB l.toArray t (lateL l.length k lt)
def St.forget (σ : St) (d : Nat) : St := { σ with fr := σ.fr.filter fun p => p.1 != d }
theorem vc_drawL {E : Ev} {mu : List Nat} {Q : Post} {σ : St} (hE : EvOk E) (hro : E.ro = none) {id : Nat} {l : List Oper} (k lt d0 : Nat) (t : OT) (hb : drawL mu l k lt d0 t = true)
    (h : ∀ K : St → Prop, (∀ σ', Q.n σ' → K σ') → wpA E mu l.toArray (l.take k) σ fun σ1 => wpA E mu l.toArray (l.drop k) σ1 K ∧ bif t.isNil then K (σ1.forget d0) else wpK E mu l.toArray t (σ1.forget d0) K) : VC E mu (.region id l.toArray true) Q σ := by
  intro hY g β O a w hf hc
  simp only [drawL, Bool.and_eq_true, List.all_eq_true, beq_iff_eq] at hb
  obtain ⟨⟨⟨⟨b1, b2⟩, b3⟩, b4⟩, b5⟩ := hb
  have h0 := h Q.n fun _ h => h
  rw [← List.append_nil (l.take k)] at h0
  obtain ⟨rs, σ', h1, h2, h3, h4, h5, h6⟩ := wpA_lex hE (l.take k) [] σ _ (fun o ho => by simpa using b2 o ho) h0
  obtain ⟨h6, h7⟩ := h6
  refine region_late hro hE.mix (h := k) b1 (rs := rs) (fun c a w hq => hq) (by simpa using h1) (fun a' w' hc' => ?_) (fun fuel L a' w' hs hL hcount hc' => ?_) hc
  · have hcn : Cn g β O σ' a' w' := by
      unfold Cn
      rw [h3, h4, h5, funext (h2 0)]
      simpa using hc'
    simpa using wpA_ok (Q := PC E g Q) hE hY (l.drop k) σ' Q.n g β O a' w' (hf.n h5) hcn h6 (fun a' w' hq => hq)
  · have hLe : L = lateL l.length k lt := by
      refine Array.ext_getElem? fun i => ?_
      by_cases hi : i < l.length
      · have h8 := hL i (by simpa using hi)
        have hi' : i < L.size := by rw [hs]; simpa using hi
        rw [Array.getD_eq_getD_getElem?, Array.getElem?_eq_getElem hi'] at h8
        rw [Array.getElem?_eq_getElem hi']
        simp only [Option.getD_some] at h8
        rw [h8]
        simp [lateL, hi]
      · rw [Array.getElem?_eq_none (by rw [hs]; simp; omega), Array.getElem?_eq_none (by simp [lateL]; omega)]
    have hcn : Cn g β O (σ'.forget d0) a' w' := by
      have hsub : ∀ (s : Nat) (av : AV), lk (σ'.forget d0).fr s = some av → foldX (fun i => i != lt) 0 (l.take k) rs (lk σ.fr) s = some av := fun s av hs => by
        obtain ⟨e1, e2⟩ := lk_filter hs
        rw [← e2, h2 0 s]
        refine foldX_at _ _ _ _ _ (fun i o hi hd => ?_) rfl
        have : i ≠ lt := fun e => by
          subst e
          rw [hi] at b3
          simp only [Option.map_some, Option.some.injEq] at b3
          rw [hd] at b3
          simp only [Option.some.injEq] at b3
          exact e1 b3
        simpa using this
      have hc2 : Cf g β O (foldX (fun i => i != lt) 0 (l.take k) rs (lk σ.fr)) σ'.hp σ'.nx σ'.n a' w' := by
        rw [h3, h4, h5]; simpa using hc'
      exact ⟨hc2.defers, fun s av hs => hc2.fr s av (hsub s av hs), hc2.sz, hc2.hc, hc2.inv, hc2.b0, hc2.pp, hc2.prot, hc2.tr⟩
    subst hLe
    exact tree_any hE hY fuel _ t (σ'.forget d0) g β O a' w' (hf.n h5) hcn b4 b5 hs (by simpa using hcount) h7 fun a'' w'' hq => hq
theorem v_drawL {E : Ev} {mu : List Nat} {N : St → Prop} {X : Nat → St → Prop} {R : St → Prop} {σ : St} (hE : EvOk E) (hro : E.ro = none) {id : Nat} {l : List Oper} (k lt d0 : Nat) (t : OT) (hb : drawL mu l k lt d0 t = true)
    (h : ∀ K : St → Prop, (∀ σ', N σ' → K σ') → wpA E mu l.toArray (l.take k) σ fun σ1 => wpA E mu l.toArray (l.drop k) σ1 K ∧ bif t.isNil then K (σ1.forget d0) else wpK E mu l.toArray t (σ1.forget d0) K) : VC E mu (.region id l.toArray true) ⟨N, X, R⟩ σ := vc_drawL hE hro k lt d0 t hb h
end Go.Ab
set_option maxRecDepth 100000
set_option maxHeartbeats 4000000
set_option linter.unusedSimpArgs false
set_option linter.unusedVariables false
set_option linter.unusedSectionVars false
namespace Go.Proofs.YtabmhfmglhjmjaaGreatDoor
open Go.Ab Go.RowKit
variable [Dr]
theorem lm_take {l : List Lmk} {i : Nat} (h : i < l.length) : List.take 3 (List.drop (((i : Nat) : Int).toNat * 3) (flatL l)) = [(gl l i).a, (gl l i).b, (gl l i).d] := flatL_at h
theorem ints3 (a b c : Int) : ints [a, b, c] = [iv a, iv b, iv c] := rfl
end Go.Proofs.YtabmhfmglhjmjaaGreatDoor
set_option linter.unusedVariables false
set_option linter.unusedSimpArgs false
set_option linter.unusedSectionVars false
namespace Go.Proofs.YtabmhfmglhjmjaaGreatDoor
open Go.Ab
attribute [local instance] drS
def ex (a : List Int) (j : Int) : Int := bif within j 0 ((a.length : Int) - 1) then gi a j else 0
def corrT (a b : List Int) (lag : Int) (i : Nat) : Int := bif within ((i : Int) + lag) 0 ((b.length : Int) - 1) then gi a i * gi b ((i : Int) + lag) else 0
def corrTo (a b : List Int) (lag : Int) (n : Nat) : Int := sumTo (corrT a b lag) n
def corr (a b : List Int) (lag : Int) : Int := corrTo a b lag a.length
theorem corrT_bound {a b : List Int} (ha : areSamples a = true) (hb : areSamples b = true) (lag : Int) (i : Nat) : -(32767 * 32767) ≤ corrT a b lag i ∧ corrT a b lag i ≤ 32767 * 32767 := by
  unfold corrT
  cases within ((i : Int) + lag) 0 ((b.length : Int) - 1)
  · rw [cond_false]; omega
  · rw [cond_true]
    have h1 := sample_gi ha i
    have h2 := sample_gi hb ((i : Int) + lag)
    generalize gi a i = x at *
    generalize gi b ((i : Int) + lag) = y at *
    have e1 : 0 ≤ (32767 - x) * (32767 + y) := Int.mul_nonneg (by omega) (by omega)
    have e2 : 0 ≤ (32767 + x) * (32767 - y) := Int.mul_nonneg (by omega) (by omega)
    have e3 : 0 ≤ (32767 - x) * (32767 - y) := Int.mul_nonneg (by omega) (by omega)
    have e4 : 0 ≤ (32767 + x) * (32767 + y) := Int.mul_nonneg (by omega) (by omega)
    simp only [Int.sub_mul, Int.mul_sub, Int.add_mul, Int.mul_add] at e1 e2 e3 e4
    omega
theorem sumTo_bound2 {f : Nat → Int} {c : Int} {n : Nat} (h : ∀ i, i < n → -c ≤ f i ∧ f i ≤ c) : -(n * c) ≤ sumTo f n ∧ sumTo f n ≤ n * c := by
  induction n with
  | zero => simp [sumTo]
  | succ n ih =>
    have := ih fun i hi => h i (by omega)
    have h2 := h n (by omega)
    rw [sumTo, show ((n + 1 : Nat) : Int) * c = n * c + c by rw [Int.natCast_succ, Int.add_mul, Int.one_mul]]
    omega
theorem corrTo_bound {a b : List Int} (ha : areSamples a = true) (hb : areSamples b = true) (lag : Int) {n : Nat} (hn : n ≤ 200) : -(200 * (32767 * 32767)) ≤ corrTo a b lag n ∧ corrTo a b lag n ≤ 200 * (32767 * 32767) := by
  have h := sumTo_bound2 (f := corrT a b lag) (n := n) fun i _ => corrT_bound ha hb lag i
  unfold corrTo
  omega
def cmpI (a b : Int) : Int := bif decide (a < b) then -1 else bif decide (b < a) then 1 else 0
def orI (a b : Int) : Int := bif a != 0 then a else b
def lagCmp (x y : Int × Int) : Int := orI (cmpI y.2 x.2) (orI (cmpI (x.1.natAbs : Int) (y.1.natAbs : Int)) (cmpI x.1 y.1))
theorem lagCmp_lt (x y : Int × Int) : lagCmp x y < 0 ↔ y.2 < x.2 ∨ (y.2 = x.2 ∧ (x.1.natAbs < y.1.natAbs ∨ (x.1.natAbs = y.1.natAbs ∧ x.1 < y.1))) := by
  unfold lagCmp orI cmpI
  by_cases h1 : y.2 < x.2
  · simp [h1]
  by_cases h2 : x.2 < y.2
  · simp [h1, h2]; omega
  have h3 : y.2 = x.2 := by omega
  by_cases h4 : (x.1.natAbs : Int) < y.1.natAbs
  · simp [h1, h2, h4]; omega
  by_cases h5 : (y.1.natAbs : Int) < x.1.natAbs
  · simp [h1, h2, h4, h5]; omega
  by_cases h6 : x.1 < y.1
  · simp [h1, h2, h4, h5, h6]; omega
  by_cases h7 : y.1 < x.1
  · simp [h1, h2, h4, h5, h6, h7]; omega
  · simp [h1, h2, h4, h5, h6, h7]; omega
def lagAt (a b : List Int) (limit : Int) (i : Nat) : Int × Int := ((i : Int) - limit, corr a b ((i : Int) - limit))
def lagsTo (a b : List Int) (limit : Int) (n : Nat) : List (Int × Int) := (List.range n).map (lagAt a b limit)
theorem lagsTo_len (a b : List Int) (limit : Int) (n : Nat) : (lagsTo a b limit n).length = n := by simp [lagsTo]
theorem lagsTo_succ (a b : List Int) (limit : Int) (n : Nat) : lagsTo a b limit n ++ [lagAt a b limit n] = lagsTo a b limit (n + 1) := by simp [lagsTo, List.range_succ]
structure LagOk (c : Int → Int) (limit best other : Int) : Prop where
  range : -limit ≤ best ∧ best ≤ limit
  first : ∀ lag, -limit ≤ lag → lag ≤ limit → lag ≠ best → c lag < c best ∨ (c lag = c best ∧ (best.natAbs < lag.natAbs ∨ (best.natAbs = lag.natAbs ∧ best < lag)))
  most : ∀ lag, -limit ≤ lag → lag ≤ limit → lag ≠ best → c lag ≤ other
  some : ∃ lag, -limit ≤ lag ∧ lag ≤ limit ∧ lag ≠ best ∧ c lag = other
theorem LagOk.unique {c : Int → Int} {limit b o b' o' : Int} (h : LagOk c limit b o) (h' : LagOk c limit b' o') : b = b' ∧ o = o' := by
  have hb : b = b' := by
    by_cases e : b = b'
    · exact e
    have h1 := h.first b' h'.range.1 h'.range.2 (fun x => e x.symm)
    have h2 := h'.first b h.range.1 h.range.2 e
    omega
  subst hb
  obtain ⟨l, l1, l2, l3, l4⟩ := h.some
  obtain ⟨m, m1, m2, m3, m4⟩ := h'.some
  have h1 := h'.most l l1 l2 l3
  have h2 := h.most m m1 m2 m3
  omega
theorem lagOk_of {a b : List Int} {limit : Int} {n : Nat} (hn : (n : Int) = 2 * limit + 1) (hl : 1 ≤ limit) {ys : List (Int × Int)} (hp : ys.Perm (lagsTo a b limit n))
    (hs : ∀ (i j : Nat) x y, i < j → ys[i]? = some x → ys[j]? = some y → 0 ≤ lagCmp y x) : ∃ x y r, ys = x :: y :: r ∧ x.2 = corr a b x.1 ∧ LagOk (corr a b) limit x.1 y.2 := by
  have hlen : ys.length = n := by rw [hp.length_eq, lagsTo_len]
  match ys, hlen with
  | [], h => simp at h; omega
  | [_], h => simp at h; omega
  | x :: y :: r, _ =>
    have hmem : ∀ z, z ∈ x :: y :: r ↔ ∃ i : Nat, i < n ∧ lagAt a b limit i = z := fun z => by
      rw [hp.mem_iff]; simp [lagsTo]
    have hnd : ((x :: y :: r).map Prod.fst).Nodup := by
      have : ((lagsTo a b limit n).map Prod.fst).Nodup := by
        have e : (lagsTo a b limit n).map Prod.fst = (List.range n).map fun i : Nat => (i : Int) - limit := by simp [lagsTo, lagAt, Function.comp_def]
        rw [e]
        exact List.Pairwise.map _ (fun i j hij => by simp only [ne_eq]; omega) List.nodup_range
      exact ((hp.map Prod.fst).nodup_iff).2 this
    have hof : ∀ z ∈ x :: y :: r, z.2 = corr a b z.1 ∧ -limit ≤ z.1 ∧ z.1 ≤ limit := fun z hz => by
      obtain ⟨i, hi, rfl⟩ := (hmem z).1 hz
      refine ⟨rfl, ?_, ?_⟩ <;> (show _ ; simp only [lagAt]; omega)
    have hin : ∀ lag, -limit ≤ lag → lag ≤ limit → (lag, corr a b lag) ∈ x :: y :: r := fun lag h1 h2 => (hmem _).2 ⟨(lag + limit).toNat, by omega, by unfold lagAt; rw [show (((lag + limit).toNat : Nat) : Int) - limit = lag by omega]⟩
    obtain ⟨x1, x2, x3⟩ := hof x (by simp)
    obtain ⟨y1, y2, y3⟩ := hof y (by simp)
    have hxy : x.1 ≠ y.1 := fun e => by
      simp only [List.map_cons, List.nodup_cons, List.mem_cons] at hnd
      exact hnd.1 (.inl e)
    have hrest : ∀ lag, -limit ≤ lag → lag ≤ limit → lag ≠ x.1 → ∃ j : Nat, 1 ≤ j ∧ (x :: y :: r)[j]? = some (lag, corr a b lag) := fun lag h1 h2 hne => by
      obtain ⟨j, hj⟩ := List.mem_iff_getElem?.1 (hin lag h1 h2)
      refine ⟨j, ?_, hj⟩
      rcases j with _ | j
      · simp at hj; exact absurd (by rw [hj]) hne.symm
      · omega
    refine ⟨x, y, r, rfl, x1, ⟨x2, x3⟩, fun lag h1 h2 hne => ?_, fun lag h1 h2 hne => ?_, ⟨y.1, y2, y3, fun e => hxy e.symm, y1.symm⟩⟩
    · obtain ⟨j, hj1, hj⟩ := hrest lag h1 h2 hne
      have h3 := hs 0 j _ _ (by omega) rfl hj
      have h4 := mt (lagCmp_lt (lag, corr a b lag) x).2 (by omega)
      dsimp only at h4
      rw [← x1]
      omega
    · obtain ⟨j, hj1, hj⟩ := hrest lag h1 h2 hne
      rw [y1]
      rcases Nat.lt_or_ge 1 j with h5 | h5
      · have h3 := hs 1 j _ _ h5 rfl hj
        have h4 := mt (lagCmp_lt (lag, corr a b lag) y).2 (by omega)
        dsimp only at h4
        omega
      · obtain rfl : j = 1 := by omega
        simp at hj
        rw [hj]
        exact Int.le_refl _
theorem lag_some (a b : List Int) {limit : Int} (hl : 1 ≤ limit) : ∃ best other, LagOk (corr a b) limit best other := by
  have key : ∀ m : Nat, ∃ best, (-limit ≤ best ∧ best < -limit + (m + 1 : Nat)) ∧ ∀ lag, -limit ≤ lag → lag < -limit + (m + 1 : Nat) → lag ≠ best → lagCmp (best, corr a b best) (lag, corr a b lag) < 0 := fun m => by
    induction m with
    | zero => exact ⟨-limit, ⟨by omega, by omega⟩, fun lag h1 h2 h3 => by omega⟩
    | succ m ih =>
      obtain ⟨b0, hb, hB⟩ := ih
      by_cases h : lagCmp (b0, corr a b b0) (-limit + (m + 1 : Nat), corr a b (-limit + (m + 1 : Nat))) < 0
      · refine ⟨b0, ⟨hb.1, by omega⟩, fun lag h1 h2 h3 => ?_⟩
        by_cases e : lag = -limit + (m + 1 : Nat)
        · rw [e]; exact h
        · exact hB lag h1 (by omega) h3
      · refine ⟨-limit + (m + 1 : Nat), ⟨by omega, by omega⟩, fun lag h1 h2 h3 => ?_⟩
        rw [lagCmp_lt] at h ⊢
        by_cases e : lag = b0
        · subst e; dsimp only at h ⊢; omega
        · have := hB lag h1 (by omega) e
          rw [lagCmp_lt] at this
          dsimp only at h this ⊢
          omega
  obtain ⟨best, hb, hB⟩ := key (2 * limit).toNat
  have hB' : ∀ lag, -limit ≤ lag → lag ≤ limit → lag ≠ best → corr a b lag < corr a b best ∨ (corr a b lag = corr a b best ∧ (best.natAbs < lag.natAbs ∨ (best.natAbs = lag.natAbs ∧ best < lag))) := fun lag h1 h2 h3 => by
    have := hB lag h1 (by omega) h3
    rw [lagCmp_lt] at this
    exact this
  have hmax : ∀ m : Nat, (∃ lag, -limit ≤ lag ∧ lag < -limit + (m : Nat) ∧ lag ≠ best) → ∃ o, (∀ lag, -limit ≤ lag → lag < -limit + (m : Nat) → lag ≠ best → corr a b lag ≤ o) ∧ ∃ lag, -limit ≤ lag ∧ lag < -limit + (m : Nat) ∧ lag ≠ best ∧ corr a b lag = o := fun m => by
    induction m with
    | zero => rintro ⟨lag, h1, h2, _⟩; omega
    | succ m ih =>
      intro hx
      by_cases hp : ∃ lag, -limit ≤ lag ∧ lag < -limit + (m : Nat) ∧ lag ≠ best
      · obtain ⟨o, ho, l, l1, l2, l3, l4⟩ := ih hp
        by_cases e : -limit + (m : Nat) = best
        · exact ⟨o, fun lag h1 h2 h3 => ho lag h1 (by omega) h3, l, l1, by omega, l3, l4⟩
        · by_cases hc : corr a b (-limit + (m : Nat)) ≤ o
          · refine ⟨o, fun lag h1 h2 h3 => ?_, l, l1, by omega, l3, l4⟩
            by_cases e2 : lag = -limit + (m : Nat)
            · rw [e2]; exact hc
            · exact ho lag h1 (by omega) h3
          · refine ⟨corr a b (-limit + (m : Nat)), fun lag h1 h2 h3 => ?_, -limit + (m : Nat), by omega, by omega, e, rfl⟩
            by_cases e2 : lag = -limit + (m : Nat)
            · rw [e2]; exact Int.le_refl _
            · have := ho lag h1 (by omega) h3; omega
      · obtain ⟨lag, h1, h2, h3⟩ := hx
        have e2 : lag = -limit + (m : Nat) := by
          by_cases e2 : lag = -limit + (m : Nat)
          · exact e2
          · exact absurd ⟨lag, h1, by omega, h3⟩ hp
        subst e2
        refine ⟨corr a b (-limit + (m : Nat)), fun l g1 g2 g3 => ?_, _, h1, by omega, h3, rfl⟩
        by_cases e3 : l = -limit + (m : Nat)
        · rw [e3]; exact Int.le_refl _
        · exact absurd ⟨l, g1, by omega, g3⟩ hp
  obtain ⟨o, ho, l, l1, l2, l3, l4⟩ := hmax (2 * limit + 1).toNat (by
    by_cases e : best = limit
    · exact ⟨-limit, by omega, by omega, by omega⟩
    · exact ⟨limit, by omega, by omega, fun h => e h.symm⟩)
  exact ⟨best, o, ⟨hb.1, by omega⟩, hB', fun lag h1 h2 h3 => ho lag h1 (by omega) h3, l, l1, by omega, l3, l4⟩
end Go.Proofs.YtabmhfmglhjmjaaGreatDoor
set_option maxRecDepth 100000
set_option maxHeartbeats 4000000
set_option linter.unusedSimpArgs false
set_option linter.unusedVariables false
set_option linter.unusedSectionVars false
namespace Go.Proofs.YtabmhfmglhjmjaaGreatDoor
open Go.Ab Go.RowKit
variable [Dr]
theorem prod_b {x y : Int} (h : -32767 ≤ x ∧ x ≤ 32767) (k : -32767 ≤ y ∧ y ≤ 32767) : -1073676289 ≤ x * y ∧ x * y ≤ 1073676289 := by
  have e1 : 0 ≤ (32767 - x) * (32767 + y) := Int.mul_nonneg (by omega) (by omega)
  have e2 : 0 ≤ (32767 + x) * (32767 - y) := Int.mul_nonneg (by omega) (by omega)
  have e3 : 0 ≤ (32767 - x) * (32767 - y) := Int.mul_nonneg (by omega) (by omega)
  have e4 : 0 ≤ (32767 + x) * (32767 + y) := Int.mul_nonneg (by omega) (by omega)
  simp only [Int.sub_mul, Int.mul_sub, Int.add_mul, Int.mul_add] at e1 e2 e3 e4
  omega
theorem corrTo_succ (a b : List Int) (lag : Int) (i : Nat) : corrTo a b lag (i + 1) = corrTo a b lag i + corrT a b lag i := rfl
theorem c_correlation (a b : List Int) (lag : Int) (ha : a.length ≤ 200) (hb : b.length ≤ 200) (sa : areSamples a = true) (sb : areSamples b = true) (hlag : -1000 ≤ lag ∧ lag ≤ 1000) : Pure Tryz.prog 87 [isl a, isl b, iv lag] (iv (corr a b lag)) := by
  refine p_intro evOk [] Tryz.func87 rfl Tryz.call87 ?_
  repeat' first
   | refine v_seq ?_ | refine v_block ?_ | refine v_ret ?_ | refine v_skip ?_ | (refine v_exit ?_; repeat' first | refine xB_eq ?_ | refine xB_ne rfl ?_)
   | ((first | refine rgA fun K hK => ?_ | refine rgB rfl fun K hK => ?_ | refine rgC rfl fun K hK => ?_); simp only [go_sem,simprocAttr])
   | (simp (disch := first | omega | rfl | (simp only [lnn]; omega)) only [spl])
   | (refine hK _ ?_; clear hK K)
   | (refine gdB_intro (fun h => ?_) (fun h => ?_) <;> simp only [go_sem,simprocAttr,h] <;> (have h' := h; try simp only [bl] at h'))
   | (refine v_cond rfl (fun h => ?_) (fun h => ?_) <;> first | (exact Bool.noConfusion h) | (have h' := h; try simp only [bl] at h'))
   | (refine r_ret ?_; simp only [resL, resA, Tryz.f87, lk_cons', lk_nil', Nat.reduceBEq]; first | exact ⟨rfl, Sb.nil _, rfl⟩ | refine ⟨rfl, sbt ?_, rfl⟩ | refine ⟨rfl, Sb.of_eq ?_, rfl⟩)
   | (refine And.intro (by first | exact True.intro | omega | rfl | exact Nat.le_of_ble_eq_true rfl | (simp only [lnn]; omega) | exact List.forall_mem_nil _ | (refine List.forall_mem_cons.2 ⟨⟨_, rfl⟩, ?_⟩; repeat' first | exact List.forall_mem_nil _ | refine List.forall_mem_cons.2 ⟨⟨_, rfl⟩, ?_⟩)) ?_)
   | fail
  refine v_loop (T := Nat) (fun i => ⟨[(1, isl b), (2, iv lag), (7, iv (corrTo a b lag i)), (10, isl a), (11, iv a.length), (12, iv i)], emp, 0, (36, 0, 0)⟩) (fun i => i ≤ a.length) (fun i => a.length - i) 0 (by omega) (by (refine ent_eq ?_ rfl rfl rfl; repeat' first | exact trivial | refine ⟨?_, ?_⟩ | rfl)) ?_
  intro i hi
  have hp := prod_b (sample_gi sa (i : Nat)) (sample_gi sb ((i : Int) + lag))
  have hc := corrTo_bound sa sb lag (n := i) (by omega)
  have e0 := corrTo_succ a b lag i
  unfold corrT at e0
  repeat' first
   | refine v_seq ?_ | refine v_block ?_ | refine v_ret ?_ | refine v_skip ?_ | (refine v_exit ?_; repeat' first | refine xB_eq ?_ | refine xB_ne rfl ?_)
   | ((first | refine rgA fun K hK => ?_ | refine rgB rfl fun K hK => ?_ | refine rgC rfl fun K hK => ?_); simp only [go_sem,simprocAttr])
   | (simp (disch := first | omega | rfl | (simp only [lnn]; omega)) only [spl])
   | (refine hK _ ?_; clear hK K)
   | (refine gdB_intro (fun h => ?_) (fun h => ?_) <;> simp only [go_sem,simprocAttr,h] <;> (have h' := h; try simp only [bl] at h'))
   | (refine v_cond rfl (fun h => ?_) (fun h => ?_) <;> first | (exact Bool.noConfusion h) | (have h' := h; try simp only [bl] at h'))
   | (refine r_ret ?_; simp only [resL, resA, Tryz.f87, lk_cons', lk_nil', Nat.reduceBEq]; first | exact ⟨rfl, Sb.nil _, rfl⟩ | refine ⟨rfl, sbt ?_, rfl⟩ | refine ⟨rfl, Sb.of_eq ?_, rfl⟩)
   | (refine And.intro (by first | exact True.intro | omega | rfl | exact Nat.le_of_ble_eq_true rfl | (simp only [lnn]; omega) | exact List.forall_mem_nil _ | (refine List.forall_mem_cons.2 ⟨⟨_, rfl⟩, ?_⟩; repeat' first | exact List.forall_mem_nil _ | refine List.forall_mem_cons.2 ⟨⟨_, rfl⟩, ?_⟩)) ?_)
   | ((first | refine call_pure' (c_within _ _ _) rfl ?_); simp only [go_sem,simprocAttr])
   | fail
  · refine ⟨i + 1, ?_, by omega, by omega⟩
    rw [e0, h, cond_true]
    (refine ent_eq ?_ rfl rfl rfl; repeat' first | exact trivial | refine ⟨?_, ?_⟩ | rfl)
  · refine ⟨i + 1, ?_, by omega, by omega⟩
    rw [e0, h, cond_false, Int.add_zero]
    (refine ent_eq ?_ rfl rfl rfl; repeat' first | exact trivial | refine ⟨?_, ?_⟩ | rfl)
  · obtain rfl : i = a.length := by omega
    rfl
theorem c_isNaN (n : Int) : Pure Tryz.prog 142 [iv n] (.v (.bool false)) := by
  refine p_intro evOk [] Tryz.func142 rfl Tryz.call142 ?_
  repeat' first
   | refine v_seq ?_ | refine v_block ?_ | refine v_ret ?_ | refine v_skip ?_ | (refine v_exit ?_; repeat' first | refine xB_eq ?_ | refine xB_ne rfl ?_)
   | ((first | refine rgA fun K hK => ?_ | refine rgB rfl fun K hK => ?_ | refine rgC rfl fun K hK => ?_); simp only [go_sem,simprocAttr])
   | (simp (disch := first | omega | rfl | (simp only [lnn]; omega)) only [spl])
   | (refine hK _ ?_; clear hK K)
   | (refine gdB_intro (fun h => ?_) (fun h => ?_) <;> simp only [go_sem,simprocAttr,h] <;> (have h' := h; try simp only [bl] at h'))
   | (refine v_cond rfl (fun h => ?_) (fun h => ?_) <;> first | (exact Bool.noConfusion h) | (have h' := h; try simp only [bl] at h'))
   | (refine r_ret ?_; simp only [resL, resA, Tryz.f142, lk_cons', lk_nil', Nat.reduceBEq]; first | exact ⟨rfl, Sb.nil _, rfl⟩ | refine ⟨rfl, sbt ?_, rfl⟩ | refine ⟨rfl, Sb.of_eq ?_, rfl⟩)
   | (refine And.intro (by first | exact True.intro | omega | rfl | exact Nat.le_of_ble_eq_true rfl | (simp only [lnn]; omega) | exact List.forall_mem_nil _ | (refine List.forall_mem_cons.2 ⟨⟨_, rfl⟩, ?_⟩; repeat' first | exact List.forall_mem_nil _ | refine List.forall_mem_cons.2 ⟨⟨_, rfl⟩, ?_⟩)) ?_)
   | fail
  simp
theorem c_Compare (a b : Int) : Pure Tryz.prog 91 [iv a, iv b] (iv (cmpI a b)) := by
  refine p_intro evOk [] Tryz.func91 rfl Tryz.call91 ?_
  repeat' first
   | refine v_seq ?_ | refine v_block ?_ | refine v_ret ?_ | refine v_skip ?_ | (refine v_exit ?_; repeat' first | refine xB_eq ?_ | refine xB_ne rfl ?_)
   | ((first | refine rgA fun K hK => ?_ | refine rgB rfl fun K hK => ?_ | refine rgC rfl fun K hK => ?_); simp only [go_sem,simprocAttr])
   | (simp (disch := first | omega | rfl | (simp only [lnn]; omega)) only [spl])
   | (refine hK _ ?_; clear hK K)
   | (refine gdB_intro (fun h => ?_) (fun h => ?_) <;> simp only [go_sem,simprocAttr,h] <;> (have h' := h; try simp only [bl] at h'))
   | (refine v_cond rfl (fun h => ?_) (fun h => ?_) <;> first | (exact Bool.noConfusion h) | (have h' := h; try simp only [bl] at h'))
   | (refine r_ret ?_; simp only [resL, resA, Tryz.f91, lk_cons', lk_nil', Nat.reduceBEq]; first | exact ⟨rfl, Sb.nil _, rfl⟩ | refine ⟨rfl, sbt ?_, rfl⟩ | refine ⟨rfl, Sb.of_eq ?_, rfl⟩)
   | (refine And.intro (by first | exact True.intro | omega | rfl | exact Nat.le_of_ble_eq_true rfl | (simp only [lnn]; omega) | exact List.forall_mem_nil _ | (refine List.forall_mem_cons.2 ⟨⟨_, rfl⟩, ?_⟩; repeat' first | exact List.forall_mem_nil _ | refine List.forall_mem_cons.2 ⟨⟨_, rfl⟩, ?_⟩)) ?_)
   | ((first | refine call_pure' (c_isNaN _) rfl ?_); simp only [go_sem,simprocAttr])
   | fail
  · rw [cmpI, decide_eq_true (by omega)]; rfl
  · rw [cmpI, decide_eq_false (by omega), decide_eq_true (by omega)]; rfl
  · rw [cmpI, decide_eq_false (by omega), decide_eq_false (by omega)]; rfl
theorem c_Or (es : List Int) (hl : Len es.length) : Pure Tryz.prog 90 [isl es] (iv (firstE es)) := by
  refine p_intro evOk [] Tryz.func90 rfl Tryz.call90 ?_
  unfold Len at hl
  repeat' first
   | refine v_seq ?_ | refine v_block ?_ | refine v_ret ?_ | refine v_skip ?_ | (refine v_exit ?_; repeat' first | refine xB_eq ?_ | refine xB_ne rfl ?_)
   | ((first | refine rgA fun K hK => ?_ | refine rgB rfl fun K hK => ?_ | refine rgC rfl fun K hK => ?_); simp only [go_sem,simprocAttr])
   | (simp (disch := first | omega | rfl | (simp only [lnn]; omega)) only [spl])
   | (refine hK _ ?_; clear hK K)
   | (refine gdB_intro (fun h => ?_) (fun h => ?_) <;> simp only [go_sem,simprocAttr,h] <;> (have h' := h; try simp only [bl] at h'))
   | (refine v_cond rfl (fun h => ?_) (fun h => ?_) <;> first | (exact Bool.noConfusion h) | (have h' := h; try simp only [bl] at h'))
   | (refine r_ret ?_; simp only [resL, resA, Tryz.f90, lk_cons', lk_nil', Nat.reduceBEq]; first | exact ⟨rfl, Sb.nil _, rfl⟩ | refine ⟨rfl, sbt ?_, rfl⟩ | refine ⟨rfl, Sb.of_eq ?_, rfl⟩)
   | (refine And.intro (by first | exact True.intro | omega | rfl | exact Nat.le_of_ble_eq_true rfl | (simp only [lnn]; omega) | exact List.forall_mem_nil _ | (refine List.forall_mem_cons.2 ⟨⟨_, rfl⟩, ?_⟩; repeat' first | exact List.forall_mem_nil _ | refine List.forall_mem_cons.2 ⟨⟨_, rfl⟩, ?_⟩)) ?_)
   | fail
  refine v_loop (T := Nat) (fun i => ⟨[(3, iv 0), (6, isl es), (7, iv es.length), (8, iv i)], emp, 0, (18, 0, 0)⟩) (fun i => i ≤ es.length ∧ firstE es = firstE (es.drop i)) (fun i => es.length - i) 0 ⟨by omega, by simp⟩ (by (refine ent_eq ?_ rfl rfl rfl; repeat' first | exact trivial | refine ⟨?_, ?_⟩ | rfl)) ?_
  rintro i ⟨hi, hP⟩
  repeat' first
   | refine v_seq ?_ | refine v_block ?_ | refine v_ret ?_ | refine v_skip ?_ | (refine v_exit ?_; repeat' first | refine xB_eq ?_ | refine xB_ne rfl ?_)
   | ((first | refine rgA fun K hK => ?_ | refine rgB rfl fun K hK => ?_ | refine rgC rfl fun K hK => ?_); simp only [go_sem,simprocAttr])
   | (simp (disch := first | omega | rfl | (simp only [lnn]; omega)) only [spl])
   | (refine hK _ ?_; clear hK K)
   | (refine gdB_intro (fun h => ?_) (fun h => ?_) <;> simp only [go_sem,simprocAttr,h] <;> (have h' := h; try simp only [bl] at h'))
   | (refine v_cond rfl (fun h => ?_) (fun h => ?_) <;> first | (exact Bool.noConfusion h) | (have h' := h; try simp only [bl] at h'))
   | (refine r_ret ?_; simp only [resL, resA, Tryz.f90, lk_cons', lk_nil', Nat.reduceBEq]; first | exact ⟨rfl, Sb.nil _, rfl⟩ | refine ⟨rfl, sbt ?_, rfl⟩ | refine ⟨rfl, Sb.of_eq ?_, rfl⟩)
   | (refine And.intro (by first | exact True.intro | omega | rfl | exact Nat.le_of_ble_eq_true rfl | (simp only [lnn]; omega) | exact List.forall_mem_nil _ | (refine List.forall_mem_cons.2 ⟨⟨_, rfl⟩, ?_⟩; repeat' first | exact List.forall_mem_nil _ | refine List.forall_mem_cons.2 ⟨⟨_, rfl⟩, ?_⟩)) ?_)
   | fail
  · rw [hP, firstE_drop (by omega), h]; rfl
  · exact ⟨i + 1, by (refine ent_eq ?_ rfl rfl rfl; repeat' first | exact trivial | refine ⟨?_, ?_⟩ | rfl), ⟨by omega, by rw [hP, firstE_drop (by omega), h]; rfl⟩, by omega⟩
  · rw [hP, List.drop_of_length_le (by omega)]; rfl
theorem or3 (a b c : Int) : firstE [a, b, c] = orI a (orI b c) := by
  have hc : (bif c != 0 then c else 0) = c := by
    by_cases h : c = 0
    · subst h; rfl
    · rw [show (c != 0) = true by simpa using h]; rfl
  show (bif a != 0 then a else bif b != 0 then b else bif c != 0 then c else 0) = _
  rw [hc]
  rfl
abbrev Lg := { p : Int × Int // -100 ≤ p.1 ∧ p.1 ≤ 100 }
def lgA (p : Int × Int) : List AV := [iv p.1, iv p.2, iv 0]
def lgc (l : List (Int × Int)) : List AV := l.flatMap lgA
theorem lgc_len (l : List (Int × Int)) : (lgc l).length = l.length * 3 := fm_len (c := lgA) (fun _ => rfl) l
theorem lgc_snoc (l : List (Int × Int)) (p : Int × Int) : lgc (l ++ [p]) = lgc l ++ [iv p.1, iv p.2, iv 0] := by simp [lgc, lgA]
theorem lgc_one : ∀ l : List (Int × Int), oneL (lgc l) = true
  | [] => rfl
  | p :: l => by
    have := lgc_one l
    unfold lgc oneL at *
    rw [List.flatMap_cons, List.all_append, this]
    rfl
theorem c_LagOf1 (x y : Lg) : Pure Tryz.prog 89 ([.ag (lgA x.1), .ag (lgA y.1)] ++ []) (iv (lagCmp x.1 y.1)) := by
  obtain ⟨⟨xl, xc⟩, hx⟩ := x
  obtain ⟨⟨yl, yc⟩, hy⟩ := y
  dsimp only at hx hy
  unfold lgA
  refine p_intro evOk [] Tryz.func89 rfl Tryz.call89 ?_
  have hs : -9223372036854775807 ≤ xl ∧ xl ≤ 9223372036854775807 := by omega
  have hs2 : -9223372036854775807 ≤ yl ∧ yl ≤ 9223372036854775807 := by omega
  have hor := c_Or [cmpI yc xc, cmpI (xl.natAbs : Int) (yl.natAbs : Int), cmpI xl yl] (len_lit rfl)
  rw [or3] at hor
  repeat' first
   | refine v_seq ?_ | refine v_block ?_ | refine v_ret ?_ | refine v_skip ?_ | (refine v_exit ?_; repeat' first | refine xB_eq ?_ | refine xB_ne rfl ?_)
   | ((first | refine rgA fun K hK => ?_ | refine rgB rfl fun K hK => ?_ | refine rgC rfl fun K hK => ?_); simp only [go_sem,simprocAttr])
   | (simp (disch := first | omega | rfl | (simp only [lnn]; omega)) only [spl])
   | (refine hK _ ?_; clear hK K)
   | (refine gdB_intro (fun h => ?_) (fun h => ?_) <;> simp only [go_sem,simprocAttr,h] <;> (have h' := h; try simp only [bl] at h'))
   | (refine v_cond rfl (fun h => ?_) (fun h => ?_) <;> first | (exact Bool.noConfusion h) | (have h' := h; try simp only [bl] at h'))
   | (refine r_ret ?_; simp only [resL, resA, Tryz.f89, lk_cons', lk_nil', Nat.reduceBEq]; first | exact ⟨rfl, Sb.nil _, rfl⟩ | refine ⟨rfl, sbt ?_, rfl⟩ | refine ⟨rfl, Sb.of_eq ?_, rfl⟩)
   | (refine And.intro (by first | exact True.intro | omega | rfl | exact Nat.le_of_ble_eq_true rfl | (simp only [lnn]; omega) | exact List.forall_mem_nil _ | (refine List.forall_mem_cons.2 ⟨⟨_, rfl⟩, ?_⟩; repeat' first | exact List.forall_mem_nil _ | refine List.forall_mem_cons.2 ⟨⟨_, rfl⟩, ?_⟩)) ?_)
   | ((first | refine call_pure' (c_Compare _ _) rfl ?_ | refine call_pure' (c_size _ hs) rfl ?_ | refine call_pure' (c_size _ hs2) rfl ?_ | refine call_pure' (hor) rfl ?_); simp only [go_sem,simprocAttr])
   | fail
  all_goals rfl
theorem cmpI_swo : Sort.SWO (Proofs.ltOf fun x y : Lg => lagCmp x.1 y.1) := by
  have key : ∀ x y : Lg, Proofs.ltOf (fun x y : Lg => lagCmp x.1 y.1) x y = true ↔ y.1.2 < x.1.2 ∨ (y.1.2 = x.1.2 ∧ (x.1.1.natAbs < y.1.1.natAbs ∨ (x.1.1.natAbs = y.1.1.natAbs ∧ x.1.1 < y.1.1))) := fun x y => by
    unfold Proofs.ltOf
    rw [decide_eq_true_eq]
    exact lagCmp_lt _ _
  refine ⟨fun x => ?_, fun x y z h k => ?_, fun x y z h k => ?_⟩
  · rw [← Bool.not_eq_true, key]; omega
  · rw [key] at *; omega
  · rw [← Bool.not_eq_true, key] at *; omega
end Go.Proofs.YtabmhfmglhjmjaaGreatDoor

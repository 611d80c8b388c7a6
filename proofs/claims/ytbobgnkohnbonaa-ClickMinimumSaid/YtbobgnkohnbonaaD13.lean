/- The abstract machine, part 26: a region that draws its order, of which few orders are left: all are walked. -/
import Derived.Test.YtbobgnkohnbonaaAbD
import Derived.Test.YtbobgnkohnbonaaD0
import Derived.Test.YtbobgnkohnbonaaC32
import Derived.Test.YtbobgnkohnbonaaS05k
import Derived.Test.YtbobgnkohnbonaaS05o
import Derived.Test.YtbobgnkohnbonaaW5
set_option linter.unusedSimpArgs false
set_option linter.unusedVariables false
namespace Go.Ab
open Go.RowKit
section
variable {E : Ev} {o : Oper} {ge : Operand → AV} {H : Hp} {nx : Nat} {K : AV → Prop}
def floC (o : Oper) : Bool := o.guard.isNone && match o.op with
  | .indexAddr _ _ _ => true
  | .fieldAddr _ _ _ => true
  | _ => floB o
theorem floC_guard (h : floC o = true) : o.guard = none := by
  simp only [floC, Bool.and_eq_true, Option.isNone_iff_eq_none] at h
  exact h.1
theorem floC_split (h : floC o = true) : floB o = true ∨ (∃ t x i, o.op = .indexAddr t x i) ∨ ∃ t x f, o.op = .fieldAddr t x f := by
  simp only [floC, Bool.and_eq_true] at h
  cases ho : o.op <;> rw [ho] at h <;> first | exact .inl h.2 | exact .inr (.inl ⟨_, _, _, rfl⟩) | exact .inr (.inr ⟨_, _, _, rfl⟩)
theorem floC_about (h : floC o = true) (P : Program) (w : World) (ev : Operand → Value) : o.about P w ev = none := by
  rcases floC_split h with h | ⟨_, _, _, h⟩ | ⟨_, _, _, h⟩
  · exact floB_about h P w ev
  · unfold Oper.about; rw [h]
  · unfold Oper.about; rw [h]
theorem floField (hE : EvOk E) {s : TypeId} {x : Operand} {f : Nat} (ho : o.op = .fieldAddr s x f) (h : fieldA E.T s (ge x) f K) : ∃ r, Flo E.P o ge r ∧ K r := by
  unfold fieldA at h
  split at h
  · rename_i si hs
    split at h
    · rename_i fs hk
      split at h
      · rename_i off ft hf
        split at h
        · rename_i fi hft
          obtain ⟨hz, h⟩ := h
          have run : ∀ (w : World) (a : Addr), (Instr.fieldAt s (.pointer (some a)) f).run E.P w = .ok (.pointer (some (a.add off))) w := by
            intro w a
            obtain ⟨gs, h1, h2⟩ := run_und_struct hE.T hs hk w
            have hsz := run_size hE.T hft w
            have hg : ∃ g : Field, gs[f]? = some g ∧ g.offset = off ∧ g.type = ft := by
              rw [h2] at hf
              simp only [List.getElem?_map, Array.getElem?_toList] at hf
              cases hq : gs[f]? with
              | none => simp [hq] at hf
              | some g => simp [hq] at hf; exact ⟨g, rfl, hf.1, hf.2⟩
            obtain ⟨g, hg1, hg2, hg3⟩ := hg
            simp [Instr.fieldAt, h1, hg1, Instr.sureAddr, fieldPlace, hg3, hsz, hz, hg2]
          split at h
          · rename_i cs i hx
            refine ⟨_, fun β O w ev hop => ?_, h⟩
            obtain ⟨b, of, hO, hb, hu, hcell⟩ := (hx ▸ hop x (by simp [ho, Op.operands])).pt_inv
            exact ⟨.pointer (some ⟨b, of + (i + off), none⟩), fun w' => by simp only [execOp, ho, hu, Sem.run_bind, run, Result.andThen_ok, Sem.run_pure, addr_add, Nat.add_assoc], .pl _ _ (Rp.mk_pt hO hb hcell)⟩
          · rename_i k of hx
            refine ⟨_, fun β O w ev hop => ?_, h⟩
            obtain ⟨b, st, hb, hu⟩ := (hx ▸ hop x (by simp [ho, Op.operands])).lp_inv
            exact ⟨.pointer (some ⟨b, st + (of + off), none⟩), fun w' => by simp only [execOp, ho, hu, Sem.run_bind, run, Result.andThen_ok, Sem.run_pure, addr_add, Nat.add_assoc], .lp k (of + off) b st hb⟩
          · exact h.elim
        · exact h.elim
      · exact h.elim
    · exact h.elim
  · exact h.elim
theorem floIndex (hE : EvOk E) {t : TypeId} {x ix : Operand} (ho : o.op = .indexAddr t x ix) (h : indexA E.T t (ge x) (ge ix) K) : ∃ r, Flo E.P o ge r ∧ K r := by
  unfold indexA at h
  split at h
  · rename_i ti ht
    split at h
    · rename_i e hk
      split at h
      · rename_i ei he
        split at h
        · rename_i sz n cs ik i hx hix
          obtain ⟨rfl, h0, h1, h⟩ := h
          refine ⟨_, fun β O w ev hop => ?_, h⟩
          have hi := (hix ▸ hop ix (by simp [ho, Op.operands])).v_inv
          obtain ⟨hl, ⟨rfl, _, _⟩ | ⟨b, off, cap, hO, hb, hn, hu, hc⟩⟩ := (hx ▸ hop x (by simp [ho, Op.operands])).sl_inv
          · omega
          · refine ⟨.pointer (some ⟨b, off + i.toNat * ei.size, none⟩), fun w' => ?_, .pl _ _ (Rp.mk_pt hO hb hc)⟩
            simp only [execOp, ho, hi, hu, Sem.run_bind, run_indexAt_sl hE ht hk he w' _ _ _ _ _ h0 h1, addr_add, Result.andThen_ok, Sem.run_pure]
        · rename_i k off sz n ik i hx hix
          obtain ⟨rfl, h0, h1, h⟩ := h
          refine ⟨_, fun β O w ev hop => ?_, h⟩
          have hi := (hix ▸ hop ix (by simp [ho, Op.operands])).v_inv
          rcases (hx ▸ hop x (by simp [ho, Op.operands])).ls_inv with ⟨_, rfl, _⟩ | ⟨b, st, cap, hb, hn, hu, _⟩
          · omega
          · refine ⟨.pointer (some ⟨b, st + (off + i.toNat * ei.size), none⟩), fun w' => ?_, .lp k _ b st hb⟩
            simp only [execOp, ho, hi, hu, Sem.run_bind, run_indexAt_sl hE ht hk he w' _ _ _ _ _ h0 h1, addr_add, Result.andThen_ok, Sem.run_pure, Nat.add_assoc]
        · exact h.elim
      · exact h.elim
    · rename_i m e hk
      split at h
      · rename_i ei he
        split at h
        · rename_i cs j ik i hx hix
          obtain ⟨h0, h1, h⟩ := h
          refine ⟨_, fun β O w ev hop => ?_, h⟩
          have hi := (hix ▸ hop ix (by simp [ho, Op.operands])).v_inv
          obtain ⟨b, off, hO, hb, hu, hc⟩ := (hx ▸ hop x (by simp [ho, Op.operands])).pt_inv
          refine ⟨.pointer (some ⟨b, off + (j + i.toNat * ei.size), none⟩), fun w' => ?_, .pl _ _ (Rp.mk_pt hO hb hc)⟩
          simp only [execOp, ho, hi, hu, Sem.run_bind, run_indexAt_arr hE ht hk he w' _ _ _ h0 h1, addr_add, Result.andThen_ok, Sem.run_pure, Nat.add_assoc]
        · rename_i k j ik i hx hix
          obtain ⟨h0, h1, h⟩ := h
          refine ⟨_, fun β O w ev hop => ?_, h⟩
          have hi := (hix ▸ hop ix (by simp [ho, Op.operands])).v_inv
          obtain ⟨b, st, hb, hu⟩ := (hx ▸ hop x (by simp [ho, Op.operands])).lp_inv
          refine ⟨.pointer (some ⟨b, st + (j + i.toNat * ei.size), none⟩), fun w' => ?_, .lp k _ b st hb⟩
          simp only [execOp, ho, hi, hu, Sem.run_bind, run_indexAt_arr hE ht hk he w' _ _ _ h0 h1, addr_add, Result.andThen_ok, Sem.run_pure, Nat.add_assoc]
        · exact h.elim
      · exact h.elim
    · exact h.elim
  · exact h.elim
theorem floC_ok (hE : EvOk E) (hc : floC o = true) (h : sop E o ge H nx K) : ∃ r, Flo E.P o ge r ∧ K r := by
  rcases floC_split hc with hb | ⟨t, x, i, ho⟩ | ⟨t, x, f, ho⟩
  · obtain ⟨r, _, h2, h3⟩ := flo_ok hE h
    exact ⟨r, h2 hb, h3⟩
  · simp only [sop, ho] at h
    exact floIndex hE ho h
  · simp only [sop, ho] at h
    exact floField hE ho h
end
inductive OT where
  | nil
  | cons (i : Nat) (sub rest : OT)
def OT.idx : OT → List Nat
  | .nil => []
  | .cons i _ rest => i :: rest.idx
def OT.isNil : OT → Bool
  | .nil => true
  | .cons _ _ _ => false
def kidsB (ops : Array Oper) : OT → Array Bool → Bool
  | .nil, _ => true
  | .cons i sub rest, L => (sub.idx == Region.ready .any ops (L.setIfInBounds i true)) && kidsB ops sub (L.setIfInBounds i true) && kidsB ops rest L
def wpK (E : Ev) (mu : List Nat) (ops : Array Oper) : OT → St → (St → Prop) → Prop
  | .nil, _, _ => True
  | .cons i sub rest, σ, K => (match ops[i]? with
    | some o => wpA E mu ops [o] σ fun σ' => bif sub.isNil then K σ' else wpK E mu ops sub σ' K
    | none => False) ∧ wpK E mu ops rest σ K
theorem wpK_nil {E : Ev} {mu : List Nat} {ops : Array Oper} {σ : St} {K : St → Prop} : wpK E mu ops .nil σ K := True.intro
theorem wpK_cons {E : Ev} {mu : List Nat} {ops : Array Oper} {σ : St} {K : St → Prop} {i : Nat} {sub rest : OT} {o : Oper} (ho : ops[i]? = some o)
    (h1 : wpA E mu ops [o] σ fun σ' => bif sub.isNil then K σ' else wpK E mu ops sub σ' K) (h2 : wpK E mu ops rest σ K) : wpK E mu ops (.cons i sub rest) σ K := ⟨by rw [ho]; exact h1, h2⟩
section
variable {E : Ev} {mu : List Nat} {ops : Array Oper} {Q : Exit → Act → World → Prop}
theorem kids_get {K : St → Prop} {i : Nat} {L : Array Bool} {σ : St} : ∀ {t : OT}, kidsB ops t L = true → wpK E mu ops t σ K → i ∈ t.idx →
    ∃ sub o, ops[i]? = some o ∧ wpA E mu ops [o] σ (fun σ' => bif sub.isNil then K σ' else wpK E mu ops sub σ' K) ∧ sub.idx = Region.ready .any ops (L.setIfInBounds i true) ∧ kidsB ops sub (L.setIfInBounds i true) = true
  | .cons j sub rest, hb, hw, hi => by
    simp only [kidsB, Bool.and_eq_true, beq_iff_eq] at hb
    obtain ⟨⟨b1, b2⟩, b3⟩ := hb
    obtain ⟨w1, w2⟩ := hw
    rcases List.mem_cons.1 hi with e | e
    · subst e
      cases ho : ops[i]? with
      | none => rw [ho] at w1; exact w1.elim
      | some o => rw [ho] at w1; exact ⟨sub, o, rfl, w1, b1, b2⟩
    · exact kids_get b3 w2 e
theorem count_set {L : Array Bool} {i : Nat} (hi : i < L.size) (hu : L.getD i true = false) : (L.setIfInBounds i true).toList.countP (· == true) = L.toList.countP (· == true) + 1 := by
  have hli : L.toList[i]'(by simpa using hi) = false := by
    rw [Array.getD_eq_getD_getElem?, Array.getElem?_eq_getElem hi] at hu
    simpa using hu
  rw [Array.toList_setIfInBounds, List.countP_set (h := by simpa using hi), hli]
  simp
theorem none_left {L : Array Bool} (hs : L.size = ops.size) (h : ops.size ≤ L.toList.countP (· == true)) : Region.ready .any ops L = [] := by
  cases hr : Region.ready .any ops L with
  | nil => rfl
  | cons i rest =>
    obtain ⟨o, ho, hu, _⟩ := ready_pred (L := L) (i := i) (by rw [hr]; simp)
    have hi : i < L.size := by rw [hs]; exact (Array.getElem?_eq_some_iff.1 ho).1
    have h1 : L.toList.countP (· == true) = L.toList.length := by
      have := List.countP_le_length (p := (· == true)) (l := L.toList)
      have h2 : L.toList.length = ops.size := by rw [Array.length_toList, hs]
      omega
    rw [List.countP_eq_length] at h1
    have := h1 L[i] (by simp)
    rw [Array.getD_eq_getD_getElem?, Array.getElem?_eq_getElem hi] at hu
    simp at hu this
    rw [hu] at this
    cases this
theorem tree_any (hE : EvOk E) (hY : YOk E) {K : St → Prop} : ∀ (fuel : Nat) (L : Array Bool) (t : OT) (σ : St) (g : Gh) (β : Bt) (O : Nat → Prop) (a : Act) (w : World), Fit E g σ → Cn g β O σ a w → t.idx = Region.ready .any ops L → kidsB ops t L = true → L.size = ops.size →
    ops.size ≤ fuel + L.toList.countP (· == true) → (bif t.isNil then K σ else wpK E mu ops t σ K) → (∀ a' w', NxtP E g K a' w' → Q .normal a' w') → wpAnyIn (Fn E.ro) 0 E.P .any ops Q fuel L a w := by
  intro fuel
  have fin : ∀ (t : OT) (L : Array Bool) (σ : St) (g : Gh) (β : Bt) (O : Nat → Prop) (a : Act) (w : World), Region.ready .any ops L = [] → t.idx = Region.ready .any ops L → Fit E g σ → Cn g β O σ a w → (bif t.isNil then K σ else wpK E mu ops t σ K) → (∀ a' w', NxtP E g K a' w' → Q .normal a' w') → Q .normal a w := by
    intro t L σ g β O a w hr hidx hf hc hw hK
    rw [hr] at hidx
    cases t with
    | nil => exact hK a w ⟨g, β, O, σ, Le.refl _ _, hf, hw, hc⟩
    | cons i s r => cases hidx
  induction fuel with
  | zero =>
    intro L t σ g β O a w hf hc hidx hb hs hcount hw hK
    have hr := none_left hs (by omega)
    exact ⟨hr, fin t L σ g β O a w hr hidx hf hc hw hK⟩
  | succ fuel ih =>
    intro L t σ g β O a w hf hc hidx hb hs hcount hw hK
    refine ⟨fun hr => fin t L σ g β O a w hr hidx hf hc hw hK, fun i hi => ?_⟩
    have hw' : wpK E mu ops t σ K := by
      cases t with
      | nil => rw [← hidx] at hi; cases hi
      | cons _ _ _ => exact hw
    obtain ⟨sub, o, ho, h1, h2, h3⟩ := kids_get hb hw' (by rw [hidx]; exact hi)
    have h4 := opS_ok (Q := Q) hE hY hf hc (show opS E mu ops o σ _ from h1)
    have h5 : wpOpIn (Fn E.ro) 0 E.P ops Q i (NxtP E g fun σ' => wpA E mu ops [] σ' fun σ' => bif sub.isNil then K σ' else wpK E mu ops sub σ' K) a w := by
      unfold wpOpIn
      rw [ho]
      exact h4
    have hisz : i < L.size := by rw [hs]; exact (Array.getElem?_eq_some_iff.1 ho).1
    have hu := (mem_ready.1 hi).1
    refine wpOpIn_mono (fun a' w' ⟨g', β', O', σ', hl, hf', h6, hc'⟩ => ?_) h5
    refine ih _ sub σ' g' β' O' a' w' hf' hc' h2 h3 (by simpa using hs) (by rw [count_set hisz hu]; omega) h6 fun a'' w'' ⟨g'', β'', O'', σ'', hl', h7⟩ => hK a'' w'' ⟨g'', β'', O'', σ'', hl.trans hl', h7⟩
def firstB (mu : List Nat) (ops : Array Oper) : List Nat → Array Bool → Bool
  | [], _ => true
  | i :: fs, L => (match ops[i]? with
    | none => false
    | some oi => floC oi && !isMut mu oi && (Region.ready .any ops L).contains i && (List.range ops.size).all fun j => j == i || L.getD j true || (match ops[j]? with
      | none => true
      | some oj => oj.after.toList.any (fun e => Region.binds .any e && e.on == i) || oi.apart ops oj)) && firstB mu ops fs (L.setIfInBounds i true)
def listed (fs : List Nat) (L : Array Bool) : Array Bool := fs.foldl (fun L i => L.setIfInBounds i true) L
theorem first_any (hE : EvOk E) (hro : E.ro = none) (hsel : ∀ (j : Nat) (o : Oper) cs b, ops[j]? = some o → o.op ≠ .select cs b) (hQ : ∀ c a w, ¬ Q (.panic c) a w) {K1 : St → Prop} {g : Gh} :
    ∀ (fs : List Nat) (L : Array Bool) (fuel : Nat) (σ : St) (β : Bt) (O : Nat → Prop) (a : Act) (w : World), Fit E g σ → Cn g β O σ a w → firstB mu ops fs L = true → L.size = ops.size → ops.size ≤ fuel + L.toList.countP (· == true) →
      wpA E mu ops (fs.filterMap fun i => ops[i]?) σ K1 → (∀ fuel' σ' β' O' a' w', ops.size ≤ fuel' + (listed fs L).toList.countP (· == true) → (listed fs L).size = ops.size → Fit E g σ' → Cn g β' O' σ' a' w' → K1 σ' → wpAnyIn (Fn E.ro) 0 E.P .any ops Q fuel' (listed fs L) a' w') →
      wpAnyIn (Fn E.ro) 0 E.P .any ops Q fuel L a w
  | [], L, fuel, σ, β, O, a, w, hf, hc, _, hs, hcount, h, hn => hn fuel σ β O a w hcount hs hf hc h
  | i :: fs, L, fuel, σ, β, O, a, w, hf, hc, hb, hs, hcount, h, hn => by
    simp only [firstB, Bool.and_eq_true] at hb
    obtain ⟨hb1, hb2⟩ := hb
    cases ho : ops[i]? with
    | none => rw [ho] at hb1; cases hb1
    | some o =>
      rw [ho] at hb1
      simp only [Bool.and_eq_true, Bool.not_eq_true', List.all_eq_true, List.mem_range, Bool.or_eq_true, beq_iff_eq, List.contains_iff_mem] at hb1
      obtain ⟨⟨⟨c1, c2⟩, c3⟩, c4⟩ := hb1
      simp only [List.filterMap_cons, ho] at h
      obtain ⟨hd, h⟩ := h
      unfold gd at h
      rw [floC_guard c1] at h
      dsimp only at h
      rw [c2, cond_false] at h
      obtain ⟨r, hF, h⟩ := floC_ok hE c1 h
      obtain ⟨u, hrun, hru⟩ := hF β O w a.eval (fun x _ => hc.ge x)
      have hisz : i < L.size := by rw [hs]; exact (Array.getElem?_eq_some_iff.1 ho).1
      have hu := (mem_ready.1 c3).1
      have hwant : Region.wanted o (yielded ops a.tmps) = true := by simp [Region.wanted, floC_guard c1]
      have hnext := first_any hE hro hsel hQ fs (L.setIfInBounds i true) (fuel - 1) (σ.put o.dst r) β O (a.put o.dst u) w (hf.n (put_n _ _ _)) (Cn.put hd hru hc) hb2 (by simpa using hs) (by rw [count_set hisz hu]; omega) h hn
      cases fuel with
      | zero =>
        have := none_left hs (by omega)
        rw [this] at c3
        cases c3
      | succ fuel =>
        refine wpAnyIn_first (oi := o) (v := u) (by rw [Fn_round]; exact hro) ho hsel (fun c a w hq => absurd hq (hQ c _ w)) fuel L a w (fun j oj hj hji hun hno => ?_) c3 ⟨.inl ⟨hwant, hrun⟩, fun w => floC_about c1 E.P w _⟩ hnext
        rcases c4 j (Array.getElem?_eq_some_iff.1 hj).1 with (h1 | h1) | h1
        · exact absurd h1 hji
        · rw [hun] at h1; cases h1
        · rw [hj] at h1
          simp only [Bool.or_eq_true, List.any_eq_true, Bool.and_eq_true, beq_iff_eq] at h1
          rcases h1 with ⟨e, he, h2, h3⟩ | h1
          · exact absurd h3 (hno e (by simpa using he) h2)
          · exact h1
end
def treeB (mu : List Nat) (l : List Oper) (fs : List Nat) (t : OT) : Bool :=
  noSel l && firstB mu l.toArray fs (Array.replicate l.length false) && (t.idx == Region.ready .any l.toArray (listed fs (Array.replicate l.length false))) && kidsB l.toArray t (listed fs (Array.replicate l.length false))
theorem vc_drawT {E : Ev} {mu : List Nat} {Q : Post} {σ : St} (hE : EvOk E) (hro : E.ro = none) {id : Nat} {l : List Oper} (fs : List Nat) (t : OT) (hb : treeB mu l fs t = true)
    (h : ∀ K : St → Prop, (∀ σ', Q.n σ' → K σ') → wpA E mu l.toArray (fs.filterMap fun i => l.toArray[i]?) σ fun σ1 => bif t.isNil then K σ1 else wpK E mu l.toArray t σ1 K) : VC E mu (.region id l.toArray true) Q σ := by
  intro hY g β O a w hf hc
  simp only [treeB, Bool.and_eq_true, beq_iff_eq] at hb
  obtain ⟨⟨⟨b1, b2⟩, b3⟩, b4⟩ := hb
  refine wpIn_region_any hE.mix ?_
  have hdrew : Gr w { w with drawn := w.drawn + 1 } := (Gr.refl _).drew
  have hsel : ∀ (j : Nat) (o : Oper) cs b, l.toArray[j]? = some o → o.op ≠ .select cs b := fun j o cs b ho e => by
    unfold noSel at b1
    rw [List.all_eq_true] at b1
    have hm : o ∈ l := by
      have := List.mem_of_getElem? (show l[j]? = some o by simpa using ho)
      exact this
    have := b1 o hm
    rw [e] at this
    cases this
  refine first_any (Q := PC E g Q) (mu := mu) hE hro hsel (fun c a w hq => hq) fs (Array.replicate l.length false) l.toArray.size σ β O a _ hf (hc.gr hdrew) b2 (by simp) (by omega) (h Q.n fun _ h => h) fun fuel' σ' β' O' a' w' f1 f2 f3 f4 f5 => ?_
  exact tree_any hE hY fuel' _ t σ' g β' O' a' w' f3 f4 b3 b4 f2 f1 f5 fun a'' w'' hq => hq
theorem v_drawT {E : Ev} {mu : List Nat} {N : St → Prop} {X : Nat → St → Prop} {R : St → Prop} {σ : St} (hE : EvOk E) (hro : E.ro = none) {id : Nat} {l : List Oper} (fs : List Nat) (t : OT) (hb : treeB mu l fs t = true)
    (h : ∀ K : St → Prop, (∀ σ', N σ' → K σ') → wpA E mu l.toArray (fs.filterMap fun i => l.toArray[i]?) σ fun σ1 => bif t.isNil then K σ1 else wpK E mu l.toArray t σ1 K) : VC E mu (.region id l.toArray true) ⟨N, X, R⟩ σ := vc_drawT hE hro fs t hb h
end Go.Ab
set_option maxRecDepth 100000
set_option maxHeartbeats 8000000
set_option linter.unusedSimpArgs false
set_option linter.unusedVariables false
namespace Go.Proofs.Ytbobgnkohnbonaa
open Go.Ab Go.RowKit
def oV (xs os : List Int) (m : Mk) (k : Nat) : Int := bif within (k : Nat) m.1 m.2 then gi os ((k : Int) - m.1) else gi xs (k : Nat)
def yF (xs os : List Int) (m : Mk) : Nat → List Int
  | 0 => xs
  | i + 1 => bif within (i : Nat) m.1 m.2 then (yF xs os m i).set i (gi os ((i : Int) - m.1)) else yF xs os m i
theorem yF_len (xs os : List Int) (m : Mk) : ∀ i, (yF xs os m i).length = xs.length
  | 0 => rfl
  | i + 1 => by
    rw [yF]
    cases within (i : Nat) m.1 m.2
    · exact yF_len xs os m i
    · rw [cond_true, List.length_set, yF_len xs os m i]
theorem yF_gi {xs os : List Int} {m : Mk} : ∀ (n k : Nat), n ≤ xs.length → k < xs.length → gi (yF xs os m n) (k : Nat) = bif decide (k < n) then oV xs os m k else gi xs (k : Nat)
  | 0, k, _, _ => by rw [decide_eq_false (by omega)]; rfl
  | n + 1, k, hn, hk => by
    have ih := yF_gi (xs := xs) (os := os) (m := m) n k (by omega) hk
    rw [yF]
    by_cases e : k = n
    · subst e
      rw [decide_eq_false (by omega), cond_false] at ih
      rw [decide_eq_true (by omega), cond_true]
      unfold oV
      cases hw : within (k : Nat) m.1 m.2
      · exact ih
      · rw [cond_true, cond_true]
        unfold gi
        rw [List.getD_eq_getElem?_getD, show ((k : Nat) : Int).toNat = k by omega, List.getElem?_set_self (by rw [yF_len]; exact hk)]
        rfl
    · have e2 : (decide (k < n + 1)) = decide (k < n) := decide_eq_decide.2 (by omega)
      rw [e2, ← ih]
      cases within (n : Nat) m.1 m.2
      · rfl
      · exact giset_ne e
theorem yF_samples {xs os : List Int} {m : Mk} (hx : areSamples xs = true) (ho : areSamples os = true) : ∀ n : Nat, areSamples (yF xs os m n) = true
  | 0 => hx
  | n + 1 => by
    rw [yF]
    cases within (n : Nat) m.1 m.2
    · exact yF_samples hx ho n
    · exact samples_set (yF_samples hx ho n) (sample_gi ho _)
def lst (f : Nat → Int) (n : Nat) : List Int := (List.range n).map f
theorem lst_len (f : Nat → Int) (n : Nat) : (lst f n).length = n := by simp [lst]
theorem lst_succ (f : Nat → Int) (n : Nat) : lst f (n + 1) = lst f n ++ [f n] := by simp [lst, List.range_succ]
theorem gi_lst (f : Nat → Int) (n k : Nat) : gi (lst f n) (k : Nat) = bif decide (k < n) then f k else 0 := by
  by_cases h : k < n
  · rw [decide_eq_true h]; simp [gi, lst, h]
  · rw [decide_eq_false h]; simp [gi, lst, h]
theorem scTo_dU (f : Nat → Int) (n : Nat) : scTo (lst f n) (n - 2) = sumTo (fun t => dU f t * dU f t) (n - 2) := by
  unfold scTo
  refine sumTo_ext fun t ht => ?_
  have e : scD (lst f n) t = dU f t := by
    unfold scD dU
    rw [gi_lst, gi_lst, gi_lst, decide_eq_true (by omega), decide_eq_true (by omega), decide_eq_true (by omega)]
    rfl
  rw [e]
theorem energy_dU {zs : List Int} {f : Nat → Int} (h : ∀ k : Nat, k < zs.length → gi zs (k : Nat) = f k) : energy zs = sumTo (fun t => dU f t * dU f t) (zs.length - 2) := by
  unfold energy
  rcases Nat.lt_or_ge zs.length 2 with hl | hl
  · rw [show zs.length - 2 = 0 by omega]
    refine sumTo_zero fun i hi => ?_
    have : second zs (i : Int) = 0 := by
      unfold second
      rw [show (decide ((i : Int) < 1) || decide ((zs.length : Int) - 2 < i)) = true by rw [Bool.or_eq_true, decide_eq_true_eq, decide_eq_true_eq]; omega]
      rfl
    rw [this]; rfl
  · obtain ⟨n, hn⟩ : ∃ n, zs.length = 1 + (n + 1) := ⟨zs.length - 2, by omega⟩
    rw [show zs.length - 2 = n by omega]
    have hS : ∀ f, sumTo f zs.length = sumTo f (1 + (n + 1)) := fun f => by rw [hn]
    rw [hS, sumTo_app]
    have h0 : second zs ((0 : Nat) : Int) = 0 := by
      unfold second
      rw [show (decide (((0 : Nat) : Int) < 1) || decide ((zs.length : Int) - 2 < ((0 : Nat) : Int))) = true by rw [Bool.or_eq_true, decide_eq_true_eq]; exact .inl (by omega)]
      rfl
    have h1 : second zs (((1 + n : Nat)) : Int) = 0 := by
      unfold second
      rw [show (decide (((1 + n : Nat) : Int) < 1) || decide ((zs.length : Int) - 2 < ((1 + n : Nat) : Int))) = true by rw [Bool.or_eq_true, decide_eq_true_eq, decide_eq_true_eq]; exact .inr (by omega)]
      rfl
    have hm : ∀ t, t < n → second zs ((1 + t : Nat) : Int) * second zs ((1 + t : Nat) : Int) = dU f t * dU f t := fun t ht => by
      have e : second zs ((1 + t : Nat) : Int) = dU f t := by
        unfold second dU
        rw [show (decide (((1 + t : Nat) : Int) < 1) || decide ((zs.length : Int) - 2 < ((1 + t : Nat) : Int))) = false by rw [Bool.or_eq_false_iff, decide_eq_false_iff_not, decide_eq_false_iff_not]; omega, cond_false]
        have e0 : ((1 + t : Nat) : Int) - 1 = (t : Nat) := by omega
        have e1 : ((1 + t : Nat) : Int) = ((t + 1 : Nat) : Int) := by omega
        have e2 : ((t + 1 : Nat) : Int) + 1 = ((t + 2 : Nat) : Int) := by omega
        rw [e0, e1, e2, h t (by omega), h (t + 1) (by omega), h (t + 2) (by omega)]
        omega
      rw [e]
    simp only [sumTo]
    rw [h0, h1, sumTo_ext hm]
    omega
theorem wcl_one : ∀ Z : List Int, oneL (wcl Z) = true
  | [] => rfl
  | z :: Z => by
    have := wcl_one Z
    unfold oneL at *
    simp only [wcl, List.flatMap_cons, List.all_append] at this ⊢
    rw [this]
    rfl
theorem wcl_plain : ∀ Z : List Int, plainL (wcl Z) = true
  | [] => rfl
  | z :: Z => by
    have := wcl_plain Z
    show plainL ([iv z.sign, isl (digs z.natAbs)] ++ wcl Z) = true
    exact plainL_app rfl this
theorem s_ClickMinimum (xs : List Int) (lo hi : Int) (os : List Int) (hos : os.length = 8) : Pure Try.prog 9 [isl xs, .ag [iv lo, iv hi], .ag (ints os)] (.v (.bool true)) := by
  have n0 : ((0 : Nat) : Int) = 0 := rfl
  have n1 : ((1 : Nat) : Int) = 1 := rfl
  have htk8 : List.take 8 os = os := List.take_of_length_le (by omega)
  have hol : (ints os).length = 8 := by rw [ints_length, hos]
  cases h40 : decide (40 < (xs.length : Int))
  rotate_left
  · refine p_intro evOk [67, 13, 14, 16, 113, 127] Try.func9 rfl Try.call9 ?_
    repeat' first
     | refine v_seq ?_ | refine v_block ?_ | refine v_ret ?_ | refine v_skip ?_ | (refine v_exit ?_; repeat' first | refine xB_eq ?_ | refine xB_ne rfl ?_)
     | ((first | refine rgA fun K hK => ?_ | refine rgB rfl fun K hK => ?_ | refine rgC rfl fun K hK => ?_); simp only [go_sem,simprocAttr,h40,n0,n1])
     | (simp (disch := first | omega | rfl | (simp only [lnn]; omega)) only [spl])
     | (refine hK _ ?_; clear hK K)
     | (refine gdB_intro (fun h => ?_) (fun h => ?_) <;> simp only [go_sem,simprocAttr,h,h40,n0,n1] <;> (have h' := h; try simp only [bl] at h'))
     | (refine v_cond rfl (fun h => ?_) (fun h => ?_) <;> first | (exact Bool.noConfusion h) | (have h' := h; try simp only [bl] at h'))
     | (refine r_ret ?_; simp only [resL, resA, Try.f9, lk_cons', lk_nil', Nat.reduceBEq]; first | exact ⟨rfl, Sb.nil _, rfl⟩ | refine ⟨rfl, sbt ?_, rfl⟩ | refine ⟨rfl, Sb.of_eq ?_, rfl⟩)
     | (refine And.intro (by first | exact True.intro | omega | rfl | exact Nat.le_of_ble_eq_true rfl | (simp only [lnn]; omega) | exact List.forall_mem_nil _ | (refine List.forall_mem_cons.2 ⟨⟨_, rfl⟩, ?_⟩; repeat' first | exact List.forall_mem_nil _ | refine List.forall_mem_cons.2 ⟨⟨_, rfl⟩, ?_⟩)) ?_)
     | ((first | refine call_pure' (c_awake) rfl ?_); simp only [go_sem,simprocAttr,h40,n0,n1])
     | fail
    all_goals skip
  have hn40 := of_decide_eq_false h40
  have hl : Len xs.length := by unfold Len; omega
  have hme : Pure Try.prog 50 [isl xs, .sl 2 1 [iv lo, iv hi]] (iv (checkM xs [(lo, hi)]).2) := c_MarksErr xs [(lo, hi)] hl (by unfold Len; simp)
  have has : Pure Try.prog 47 [.sl 1 8 (ints os)] (.v (.bool (areSamples os))) := by
    have := c_AreSamples os (by unfold Len; omega)
    unfold isl at this
    rw [hos] at this
    exact this
  cases hg : (checkM xs [(lo, hi)]).2 == 0 && areSamples os
  · refine p_intro evOk [67, 13, 14, 16, 113, 127] Try.func9 rfl Try.call9 ?_
    repeat' first
     | refine v_seq ?_ | refine v_block ?_ | refine v_ret ?_ | refine v_skip ?_ | (refine v_exit ?_; repeat' first | refine xB_eq ?_ | refine xB_ne rfl ?_)
     | ((first | refine rgA fun K hK => ?_ | refine rgB rfl fun K hK => ?_ | refine rgC rfl fun K hK => ?_); simp only [go_sem,simprocAttr,h40,n0,n1,hol,htk8])
     | (simp (disch := first | omega | rfl | (simp only [lnn]; omega)) only [spl])
     | (refine hK _ ?_; clear hK K)
     | (refine gdB_intro (fun h => ?_) (fun h => ?_) <;> simp only [go_sem,simprocAttr,h,h40,n0,n1,hol,htk8] <;> (have h' := h; try simp only [bl] at h'))
     | (refine v_cond rfl (fun h => ?_) (fun h => ?_) <;> first | (exact Bool.noConfusion h) | (have h' := h; try simp only [bl] at h'))
     | (refine r_ret ?_; simp only [resL, resA, Try.f9, lk_cons', lk_nil', Nat.reduceBEq]; first | exact ⟨rfl, Sb.nil _, rfl⟩ | refine ⟨rfl, sbt ?_, rfl⟩ | refine ⟨rfl, Sb.of_eq ?_, rfl⟩)
     | (refine And.intro (by first | exact True.intro | omega | rfl | exact Nat.le_of_ble_eq_true rfl | (simp only [lnn]; omega) | exact List.forall_mem_nil _ | (refine List.forall_mem_cons.2 ⟨⟨_, rfl⟩, ?_⟩; repeat' first | exact List.forall_mem_nil _ | refine List.forall_mem_cons.2 ⟨⟨_, rfl⟩, ?_⟩)) ?_)
     | ((first | refine call_pure' (c_awake) rfl ?_ | refine call_pure' (hme) rfl ?_ | refine call_pure' (has) rfl ?_); simp only [go_sem,simprocAttr,h40,n0,n1,hol,htk8])
     | (simp only [go_sem,simprocAttr,hol,htk8])
     | fail
    exfalso
    simp_all
  simp only [Bool.and_eq_true, beq_iff_eq] at hg
  obtain ⟨hc, hso⟩ := hg
  have hs := (checkM_zero hc).1
  obtain ⟨hn200, hx⟩ := signalErr_zero hs
  have hmk : MkOk xs (lo, hi) := mkOk_of hc 0 (by simp)
  rw [hc] at hme
  rw [hso] at has
  have hmd := mdB_of hs hmk
  have hown := own_ok hs hmk
  obtain ⟨hn8, e1, h1, _⟩ := hmk.good
  have hnl := mN_len (xs := xs) (lo, hi)
  have hlo : 0 ≤ lo := hmk.lo
  have hle : lo ≤ hi := hmk.le
  have hhi : hi < xs.length := hmk.hi
  have hrun : hi - lo < 8 := hmk.run
  have hL2 : 2 ≤ xs.length := by
    have h := hmk.left
    dsimp only at h
    omega
  have hlm : Len ([(lo, hi)] : List Mk).length := by unfold Len; simp
  have hcx := c_CopyInts xs hl
  have hcp : Pure Try.prog 21 [.sl 2 1 [iv lo, iv hi]] (.sl 2 1 [iv lo, iv hi]) := c_CopyRanges [(lo, hi)] hlm
  have hck := c_CheckMarks xs [(lo, hi)] hl hlm
  rw [hc] at hck
  have hE : Pure Try.prog 22 [isl xs, .sl 2 1 [iv lo, iv hi]] (.tu [.sl 3 1 [iv lo, iv (mDen xs (lo, hi)), isl (mNums xs (lo, hi))], iv 0]) :=
    c_ExactG xs [(lo, hi)] (fun _ => lo) (fun _ => mDen xs (lo, hi)) (fun _ => mNums xs (lo, hi)) _ (by simp) hck fun i hi' => by
      obtain rfl : i = 0 := by simpa using hi'
      exact c_mendM xs (lo, hi) hs hmk
  have hMd : Mds 1 [iv lo, iv (mDen xs (lo, hi)), isl (mNums xs (lo, hi))] (fun _ => lo) (fun _ => mDen xs (lo, hi)) (fun _ => mNums xs (lo, hi)) := ⟨by omega, rfl, fun i hi' => by
    obtain rfl : i = 0 := by omega
    exact ⟨rfl, rfl, rfl⟩, fun i _ => by rw [hnl]; omega⟩
  have hce : Pure Try.prog 51 [isl xs, .sl 2 1 [iv lo, iv hi], .sl 3 1 [iv lo, iv (mDen xs (lo, hi)), isl (mNums xs (lo, hi))]] (.tu [iv 0, iv 0]) := by
    have := c_refCheckExact xs [(lo, hi)] hMd hc
    rw [show ckE xs [(lo, hi)] 1 (fun _ => lo) (fun _ => mDen xs (lo, hi)) (fun _ => mNums xs (lo, hi)) = (0, 0) by
      unfold ckE
      rw [show ((1 : Nat) == ([(lo, hi)] : List Mk).length) = true from rfl, cond_true]
      refine fbTo_zero _ fun q hq => ?_
      obtain rfl : q = 0 := by omega
      exact hown] at this
    exact this
  have hin : Pure Try.prog 56 [isl xs, .sl 2 1 [iv lo, iv hi]] (.tu [isl (interM xs [(lo, hi)]), iv 0]) := by
    have := c_Interpolated xs [(lo, hi)] hl hlm
    unfold interL at this
    rw [hc] at this
    exact this
  have hzl := interM_len xs [(lo, hi)]
  have hzs : areSamples (interM xs [(lo, hi)]) = true := samples_interTo _ _ _ hx _
  have hzz : interM xs [(lo, hi)] = interTo xs (fun _ => lo) (fun _ => mDen xs (lo, hi)) (fun _ => mNums xs (lo, hi)) 1 := by
    unfold interM
    exact interTo_congr 1 fun j hj => by
      obtain rfl : j = 0 := by omega
      exact ⟨rfl, rfl, rfl⟩
  have hsum : ∀ r : Nat, r < (mNums xs (lo, hi)).length → sumJ xs (mNums xs (lo, hi)) lo (mDen xs (lo, hi)) (lo + (r : Nat)) = 0 := fun r hr => badTo_false (pfE_zero hown).2.2.2 r hr
  have hhl : hi = lo + (mNums xs (lo, hi)).length - 1 := by rw [hnl]; exact e1
  have hden := hmd.den
  have hnum := hmd.num
  have hnl8 := hmd.len
  have hnmh := hmd.hi
  clear hmd hown hnl hMd e1 hn8 h1 hck
  generalize mDen xs (lo, hi) = D at *
  generalize mNums xs (lo, hi) = NU at *
  generalize interM xs [(lo, hi)] = z at *
  have hMB : ∀ k : Nat, k < xs.length → -65534000 * 1000 ≤ valV xs NU lo hi D k ∧ valV xs NU lo hi D k ≤ 65534000 * 1000 := fun k hk => by
    unfold valV
    cases hw : within (k : Nat) lo hi
    · have := mulAbs (sample_gi hx (k : Nat)) (show -2000 ≤ D ∧ D ≤ 2000 by omega)
      rw [cond_false]; omega
    · have hw' := within_iff.1 hw
      have := hnum (k - lo.toNat) (by omega)
      rw [show ((k - lo.toNat : Nat) : Int) = (k : Int) - lo by omega] at this
      rw [cond_true]; omega
  have hoV : ∀ k : Nat, -32767 ≤ oV xs os (lo, hi) k ∧ oV xs os (lo, hi) k ≤ 32767 := fun k => by
    unfold oV
    cases within (k : Nat) lo hi
    · exact sample_gi hx _
    · exact sample_gi hso _
  have hGB : ∀ k : Nat, -65534000 ≤ oV xs os (lo, hi) k * D ∧ oV xs os (lo, hi) k * D ≤ 65534000 := fun k => by
    have := mulAbs (hoV k) (show -2000 ≤ D ∧ D ≤ 2000 by omega)
    omega
  have hmin := min_energy (xs := xs) (nums := NU) (lo := lo) (den := D) (v := fun k => oV xs os (lo, hi) k * D) hL2 hlo hnmh hsum fun k hk hw => by
    rw [← hhl] at hw
    unfold oV
    dsimp only
    rw [hw]
    rfl
  rw [← hhl] at hmin
  have hM1 := c_scaled (lst (valV xs NU lo hi D) xs.length) (by rw [lst_len]; omega) fun i => by
    rw [gi_lst]
    by_cases h : i < xs.length
    · rw [decide_eq_true h]; have := hMB i h; simp only [cond_true]; omega
    · rw [decide_eq_false h]; simp only [cond_false]; omega
  have hG1 := c_scaled (lst (fun k => oV xs os (lo, hi) k * D) xs.length) (by rw [lst_len]; omega) fun i => by
    rw [gi_lst]
    by_cases h : i < xs.length
    · rw [decide_eq_true h]; have := hGB i; simp only [cond_true]; omega
    · rw [decide_eq_false h]; simp only [cond_false]; omega
  have hMs := scTo_bound (Z := lst (valV xs NU lo hi D) xs.length) (t := xs.length - 2) (fun i => by
    rw [gi_lst]
    by_cases h : i < xs.length
    · rw [decide_eq_true h]; have := hMB i h; simp only [cond_true]; omega
    · rw [decide_eq_false h]; simp only [cond_false]; omega) (by omega)
  have hGs := scTo_bound (Z := lst (fun k => oV xs os (lo, hi) k * D) xs.length) (t := xs.length - 2) (fun i => by
    rw [gi_lst]
    by_cases h : i < xs.length
    · rw [decide_eq_true h]; have := hGB i; simp only [cond_true]; omega
    · rw [decide_eq_false h]; simp only [cond_false]; omega) (by omega)
  rw [lst_len] at hM1 hG1
  rw [scTo_dU] at hM1 hG1 hMs hGs
  have hcm := c_WideCmp _ _ (Nat.le_trans (dl4 hMs) (by decide)) (Nat.le_trans (dl4 hGs) (by decide))
  have hsgn : decide (0 < (sumTo (fun t => dU (valV xs NU lo hi D) t * dU (valV xs NU lo hi D) t) (xs.length - 2) - sumTo (fun t => dU (fun k => oV xs os (lo, hi) k * D) t * dU (fun k => oV xs os (lo, hi) k * D) t) (xs.length - 2)).sign) = false := decide_eq_false fun h => by
    have := Int.sign_nonpos_iff.2 (show sumTo (fun t => dU (valV xs NU lo hi D) t * dU (valV xs NU lo hi D) t) (xs.length - 2) - sumTo (fun t => dU (fun k => oV xs os (lo, hi) k * D) t * dU (fun k => oV xs os (lo, hi) k * D) t) (xs.length - 2) ≤ 0 by omega)
    omega
  have hns : Pure Try.prog 47 [isl NU] (.v (.bool (areSamples NU))) := c_AreSamples NU (by unfold Len; omega)
  have hyl := fun i => yF_len xs os (lo, hi) i
  generalize hMf : valV xs NU lo hi D = M at *
  generalize hGf : (fun k => oV xs os (lo, hi) k * D) = G at *
  refine p_intro evOk [67, 13, 14, 16, 113, 127] Try.func9 rfl Try.call9 ?_
  repeat' first
   | refine v_seq ?_ | refine v_block ?_ | refine v_ret ?_ | refine v_skip ?_ | (refine v_exit ?_; repeat' first | refine xB_eq ?_ | refine xB_ne rfl ?_)
   | ((first | refine rgA fun K hK => ?_ | refine rgB rfl fun K hK => ?_ | refine rgC rfl fun K hK => ?_); simp only [go_sem,simprocAttr,h40,n0,n1,hol,htk8,bne_self_eq_false,beq_self_eq_true])
   | (simp (disch := first | omega | rfl | (simp only [lnn]; omega)) only [spl])
   | (refine hK _ ?_; clear hK K)
   | (refine gdB_intro (fun h => ?_) (fun h => ?_) <;> simp only [go_sem,simprocAttr,h,h40,n0,n1,hol,htk8,bne_self_eq_false,beq_self_eq_true] <;> (have h' := h; try simp only [bl] at h'))
   | (refine v_cond rfl (fun h => ?_) (fun h => ?_) <;> first | (exact Bool.noConfusion h) | (have h' := h; try simp only [bl] at h'))
   | (refine r_ret ?_; simp only [resL, resA, Try.f9, lk_cons', lk_nil', Nat.reduceBEq]; first | exact ⟨rfl, Sb.nil _, rfl⟩ | refine ⟨rfl, sbt ?_, rfl⟩ | refine ⟨rfl, Sb.of_eq ?_, rfl⟩)
   | (refine And.intro (by first | exact True.intro | omega | rfl | exact Nat.le_of_ble_eq_true rfl | (simp only [lnn]; omega) | exact List.forall_mem_nil _ | (refine List.forall_mem_cons.2 ⟨⟨_, rfl⟩, ?_⟩; repeat' first | exact List.forall_mem_nil _ | refine List.forall_mem_cons.2 ⟨⟨_, rfl⟩, ?_⟩)) ?_)
   | ((first | refine call_pure' (c_awake) rfl ?_ | refine call_pure' (hme) rfl ?_ | refine call_pure' (has) rfl ?_ | refine call_pure' (hcp) rfl ?_ | refine call_pure' (hE) rfl ?_ | refine call_pure' (hce) rfl ?_); simp only [go_sem,simprocAttr,h40,n0,n1,hol,htk8,bne_self_eq_false,beq_self_eq_true])
   | (refine call_fresh (f_CopyInts xs hl) (SbL.refl _) rfl ?_; simp only [cmK, go_sem,simprocAttr])
   | (refine call_pure' hcx rfl ?_; simp only [go_sem,simprocAttr])
   | (simp only [go_sem,simprocAttr,hol,htk8])
   | fail
  refine v_loop (T := Nat × Nat × Nat × Nat) (fun q => ⟨[(0, isl xs), (4, .pt [iv lo, iv hi] 0), (5, .pt (ints os) 0), (7, .sl 2 1 [iv lo, iv hi]), (8, .sl 3 1 [iv lo, iv D, isl NU]), (12, .ls 0 0 1 xs.length), (13, .ls q.2.1 0 2 q.1), (14, .ls q.2.2.1 0 2 q.1), (15, iv q.1)], hls [(q.2.1, wcl (lst M q.1)), (q.2.2.1, wcl (lst G q.1)), (0, ints (yF xs os (lo, hi) q.1))], q.2.2.2, (192, 0, 0)⟩)
    (fun q => q.1 ≤ xs.length ∧ 0 < q.2.1 ∧ 0 < q.2.2.1 ∧ q.2.1 ≠ q.2.2.1 ∧ q.2.1 < q.2.2.2 ∧ q.2.2.1 < q.2.2.2) (fun q => xs.length - q.1) (0, 1, 2, 3) ⟨Nat.zero_le _, by decide, by decide, by decide, by decide, by decide⟩ (ent_rows _ (by (repeat' first | exact trivial | refine ⟨?_, ?_⟩ | rfl)) rfl (by simp only [rowsOk, hset', hls]; simp [lst, wcl, yF, ints]) (Nat.le_refl _)) ?_
  rintro ⟨i, A, B, X⟩ ⟨g1, g2, g3, g4, g5, g6⟩
  dsimp only at g1 g2 g3 g4 g5 g6 ⊢
  have hxx : (0 == A) = false ∧ (0 == B) = false ∧ (0 == X) = false ∧ (X == 0) = false ∧ (0 == X + 1) = false ∧ (X + 1 == 0) = false ∧ (0 == X + 2) = false ∧ (X + 2 == 0) = false ∧ (0 == X + 3) = false ∧ (X + 3 == 0) = false ∧ (0 == X + 4) = false ∧ (X + 4 == 0) = false ∧ (A == 0) = false ∧ (A == B) = false ∧ (A == X) = false ∧ (X == A) = false ∧ (A == X + 1) = false ∧ (X + 1 == A) = false ∧ (A == X + 2) = false ∧ (X + 2 == A) = false ∧ (A == X + 3) = false ∧ (X + 3 == A) = false ∧ (A == X + 4) = false ∧ (X + 4 == A) = false ∧ (B == 0) = false ∧ (B == A) = false ∧ (B == X) = false ∧ (X == B) = false ∧ (B == X + 1) = false ∧ (X + 1 == B) = false ∧ (B == X + 2) = false ∧ (X + 2 == B) = false ∧ (B == X + 3) = false ∧ (X + 3 == B) = false ∧ (B == X + 4) = false ∧ (X + 4 == B) = false ∧ (X + 1 == X) = false ∧ (X == X + 1) = false ∧ (X + 2 == X) = false ∧ (X == X + 2) = false ∧ (X + 3 == X) = false ∧ (X == X + 3) = false ∧ (X + 4 == X) = false ∧ (X == X + 4) = false ∧ (X + 1 == X + 2) = false ∧ (X + 1 == X + 3) = false ∧ (X + 1 == X + 4) = false ∧ (X + 2 == X + 1) = false ∧ (X + 2 == X + 3) = false ∧ (X + 2 == X + 4) = false ∧ (X + 3 == X + 1) = false ∧ (X + 3 == X + 2) = false ∧ (X + 3 == X + 4) = false ∧ (X + 4 == X + 1) = false ∧ (X + 4 == X + 2) = false ∧ (X + 4 == X + 3) = false := by
    repeat' first | refine And.intro ?_ ?_ | exact beq_ne (by omega)
  have hMl := wcl_len (lst M i)
  have hGl := wcl_len (lst G i)
  rw [lst_len] at hMl hGl
  have hMo := wcl_one (lst M i)
  have hGo := wcl_one (lst G i)
  have htM : List.take (i * 2) (wcl (lst M i)) = wcl (lst M i) := List.take_of_length_le (by omega)
  have htG : List.take (i * 2) (wcl (lst G i)) = wcl (lst G i) := List.take_of_length_le (by omega)
  have hyi := hyl i
  by_cases hi2 : i < xs.length
  · have hd : decide ((i : Int) < xs.length) = true := decide_eq_true (by omega)
    have hyg := yF_gi (xs := xs) (os := os) (m := (lo, hi)) i i g1 hi2
    rw [decide_eq_false (Nat.lt_irrefl i), cond_false] at hyg
    have hxi := sample_gi hx (i : Nat)
    have hMi := hMB i hi2
    have hGi := hGB i
    have hoi := hoV i
    have hgG : oV xs os (lo, hi) i * D = G i := by rw [← hGf]
    have hw2 : Pure Try.prog 53 [iv D] (wd D) := c_WideOf D (by omega)
    have hw6 : Pure Try.prog 52 [wd (oV xs os (lo, hi) i), wd D] (wd (G i)) := by
      have := c_WideMul (oV xs os (lo, hi) i) D (Nat.le_trans (dl2 (by omega)) (by decide)) (Nat.le_trans (dl2 (by omega)) (by decide))
      rw [hgG] at this
      exact this
    have hw1 : Pure Try.prog 53 [iv (gi xs (i : Nat))] (wd (gi xs (i : Nat))) := c_WideOf _ (by omega)
    have hw5 : Pure Try.prog 53 [iv (oV xs os (lo, hi) i)] (wd (oV xs os (lo, hi) i)) := c_WideOf _ (by omega)
    have hmulb := mulAbs hxi (show -2000 ≤ D ∧ D ≤ 2000 by omega)
    have hw3 : Pure Try.prog 52 [wd (gi xs (i : Nat)), wd D] (wd (gi xs (i : Nat) * D)) := c_WideMul _ D (Nat.le_trans (dl2 (by omega)) (by decide)) (Nat.le_trans (dl2 (by omega)) (by decide))
    have hor : ∀ z : Int, oneL [AV.v (.int .i64 z.sign), AV.sl 1 (digs z.natAbs).length (ints (digs z.natAbs))] = true := fun _ => rfl
    have hsM : wcl (lst M i) ++ [AV.v (.int .i64 (M i).sign), AV.sl 1 (digs (M i).natAbs).length (ints (digs (M i).natAbs))] = wcl (lst M (i + 1)) := by rw [lst_succ, wcl_snoc]
    have hsG : wcl (lst G i) ++ [AV.v (.int .i64 (G i).sign), AV.sl 1 (digs (G i).natAbs).length (ints (digs (G i).natAbs))] = wcl (lst G (i + 1)) := by rw [lst_succ, wcl_snoc]
    have hyg2 := yF_gi (xs := xs) (os := os) (m := (lo, hi)) (i + 1) i (by omega) hi2
    rw [decide_eq_true (Nat.lt_succ_self i), cond_true] at hyg2
    have hyi2 := hyl (i + 1)
    unfold wd at hw1 hw2 hw3 hw5 hw6
    obtain ⟨s7, d7, hq7⟩ : ∃ s d, s = (oV xs os (lo, hi) i).sign ∧ d = digs (oV xs os (lo, hi) i).natAbs := ⟨_, _, rfl, rfl⟩
    rw [← hq7.1, ← hq7.2] at hw5 hw6
    obtain ⟨s8, d8, hq8⟩ : ∃ s d, s = (gi xs (i : Nat)).sign ∧ d = digs (gi xs (i : Nat)).natAbs := ⟨_, _, rfl, rfl⟩
    rw [← hq8.1, ← hq8.2] at hw1 hw3
    obtain ⟨s9, d9, hq9⟩ : ∃ s d, s = D.sign ∧ d = digs D.natAbs := ⟨_, _, rfl, rfl⟩
    rw [← hq9.1, ← hq9.2] at hw2 hw3 hw6
    repeat' first
     | refine v_seq ?_ | refine v_block ?_ | refine v_ret ?_ | refine v_skip ?_ | (refine v_exit ?_; repeat' first | refine xB_eq ?_ | refine xB_ne rfl ?_)
     | ((first | refine rgA fun K hK => ?_ | refine rgB rfl fun K hK => ?_ | refine rgC rfl fun K hK => ?_); simp only [go_sem,simprocAttr,n0,n1,hd,hls,hxx])
     | (simp (disch := first | omega | rfl | (simp only [lnn]; omega)) only [spl])
     | (refine hK _ ?_; clear hK K)
     | (refine gdB_intro (fun h => ?_) (fun h => ?_) <;> simp only [go_sem,simprocAttr,h,n0,n1,hd,hls,hxx] <;> (have h' := h; try simp only [bl] at h'))
     | (refine v_cond rfl (fun h => ?_) (fun h => ?_) <;> first | (exact Bool.noConfusion h) | (have h' := h; try simp only [bl] at h'))
     | (refine r_ret ?_; simp only [resL, resA, Try.f9, lk_cons', lk_nil', Nat.reduceBEq]; first | exact ⟨rfl, Sb.nil _, rfl⟩ | refine ⟨rfl, sbt ?_, rfl⟩ | refine ⟨rfl, Sb.of_eq ?_, rfl⟩)
     | (refine And.intro (by first | exact True.intro | omega | rfl | exact Nat.le_of_ble_eq_true rfl | (simp only [lnn]; omega) | exact List.forall_mem_nil _ | (refine List.forall_mem_cons.2 ⟨⟨_, rfl⟩, ?_⟩; repeat' first | exact List.forall_mem_nil _ | refine List.forall_mem_cons.2 ⟨⟨_, rfl⟩, ?_⟩)) ?_)
     | (refine v_drawA evOk rfl (fun K hK => ?_); simp only [go_sem,simprocAttr,n0,hls,hxx,hset_at,hset_hset])
     | fail
    all_goals try (exfalso; omega)
    repeat' first
     | ((first | refine rgA fun K hK => ?_ | refine rgB rfl fun K hK => ?_ | refine rgC rfl fun K hK => ?_); simp only [go_sem,simprocAttr,n0,n1,hls,hxx,hset_at,hset_hset])
     | (simp (disch := first | omega | rfl | (simp only [lnn]; omega)) only [spl])
     | (refine hK _ ?_; clear hK K)
     | (refine gdB_intro (fun h => ?_) (fun h => ?_) <;> simp only [go_sem,simprocAttr,h,n0,n1,hls,hxx,hset_at,hset_hset] <;> (have h' := h; try simp only [bl] at h'))
     | (refine v_cond rfl (fun h => ?_) (fun h => ?_) <;> first | (exact Bool.noConfusion h) | (have h' := h; try simp only [bl] at h'))
     | (refine r_ret ?_; simp only [resL, resA, Try.f9, lk_cons', lk_nil', Nat.reduceBEq]; first | exact ⟨rfl, Sb.nil _, rfl⟩ | refine ⟨rfl, sbt ?_, rfl⟩ | refine ⟨rfl, Sb.of_eq ?_, rfl⟩)
     | (refine And.intro (by first | exact True.intro | omega | rfl | exact Nat.le_of_ble_eq_true rfl | (simp only [lnn]; omega) | exact List.forall_mem_nil _ | (refine List.forall_mem_cons.2 ⟨⟨_, rfl⟩, ?_⟩; repeat' first | exact List.forall_mem_nil _ | refine List.forall_mem_cons.2 ⟨⟨_, rfl⟩, ?_⟩)) ?_)
     | ((first | refine call_pure' (hw1) rfl ?_ | refine call_pure' (hw2) rfl ?_ | refine call_pure' (hw3) rfl ?_); simp only [go_sem,simprocAttr,n0,n1,hls,hxx,hset_at,hset_hset])
     | fail
    refine v_cut (T := Unit) (fun _ => ⟨[(0, isl xs), (4, .pt [iv lo, iv hi] 0), (5, .pt (ints os) 0), (7, .sl 2 1 [iv lo, iv hi]), (8, .sl 3 1 [iv lo, iv D, isl NU]), (12, .ls 0 0 1 xs.length), (13, .ls A 0 2 i), (14, .ls B 0 2 i), (15, iv i), (16, .lp X 0)], hls [(X, [iv (M i).sign, isl (digs (M i).natAbs)]), (A, wcl (lst M i)), (B, wcl (lst G i)), (0, ints (yF xs os (lo, hi) (i + 1)))], X + 1, (192, 0, 0)⟩) (fun _ => True) ?_ (fun _ _ => ?_)
    · cases hw : within (i : Nat) lo hi
      · have hM0 : gi xs (i : Nat) * D = M i := by rw [← hMf]; unfold valV; rw [hw]; rfl
        have hys : yF xs os (lo, hi) (i + 1) = yF xs os (lo, hi) i := by rw [yF, hw]; rfl
        repeat' first
         | refine v_seq ?_ | refine v_block ?_ | refine v_ret ?_ | refine v_skip ?_ | (refine v_exit ?_; repeat' first | refine xB_eq ?_ | refine xB_ne rfl ?_)
         | ((first | refine rgA fun K hK => ?_ | refine rgB rfl fun K hK => ?_ | refine rgC rfl fun K hK => ?_); simp only [go_sem,simprocAttr,n0,n1,hw])
         | (simp (disch := first | omega | rfl | (simp only [lnn]; omega)) only [spl])
         | (refine hK _ ?_; clear hK K)
         | (refine gdB_intro (fun h => ?_) (fun h => ?_) <;> simp only [go_sem,simprocAttr,h,n0,n1,hw] <;> (have h' := h; try simp only [bl] at h'))
         | (refine v_cond rfl (fun h => ?_) (fun h => ?_) <;> first | (exact Bool.noConfusion h) | (have h' := h; try simp only [bl] at h'))
         | (refine r_ret ?_; simp only [resL, resA, Try.f9, lk_cons', lk_nil', Nat.reduceBEq]; first | exact ⟨rfl, Sb.nil _, rfl⟩ | refine ⟨rfl, sbt ?_, rfl⟩ | refine ⟨rfl, Sb.of_eq ?_, rfl⟩)
         | (refine And.intro (by first | exact True.intro | omega | rfl | exact Nat.le_of_ble_eq_true rfl | (simp only [lnn]; omega) | exact List.forall_mem_nil _ | (refine List.forall_mem_cons.2 ⟨⟨_, rfl⟩, ?_⟩; repeat' first | exact List.forall_mem_nil _ | refine List.forall_mem_cons.2 ⟨⟨_, rfl⟩, ?_⟩)) ?_)
         | ((first | refine call_pure' (c_Within _ _ _) rfl ?_); simp only [go_sem,simprocAttr,n0,n1,hw])
         | fail
        all_goals try (exfalso; omega)
        refine ⟨(), ?_, trivial⟩
        rw [hM0, hys]
        exact ent_rows _ (by (repeat' first | exact trivial | refine ⟨?_, ?_⟩ | rfl)) rfl (by simp only [rowsOk, hset', hls]; simp [hxx, splice]; omega) (Nat.le_refl _)
      · have hw' := within_iff.1 hw
        have hM0 : gi NU ((i : Int) - lo) = M i := by rw [← hMf]; unfold valV; rw [hw]; rfl
        have hys : yF xs os (lo, hi) (i + 1) = (yF xs os (lo, hi) i).set i (gi os ((i : Int) - lo)) := by rw [yF, hw]; rfl
        have hnb := hMB i hi2
        have hw4 : Pure Try.prog 53 [iv (gi NU ((i : Int) - lo))] (wd (gi NU ((i : Int) - lo))) := c_WideOf _ (by rw [hM0]; omega)
        unfold wd at hw4
        repeat' first
         | refine v_seq ?_ | refine v_block ?_ | refine v_ret ?_ | refine v_skip ?_ | (refine v_exit ?_; repeat' first | refine xB_eq ?_ | refine xB_ne rfl ?_)
         | ((first | refine rgA fun K hK => ?_ | refine rgB rfl fun K hK => ?_ | refine rgC rfl fun K hK => ?_); simp only [go_sem,simprocAttr,n0,n1,hw,hls,hxx,hyi,hset_at,hset_hset])
         | (simp (disch := first | omega | rfl | (simp only [lnn]; omega)) only [spl])
         | (refine hK _ ?_; clear hK K)
         | (refine gdB_intro (fun h => ?_) (fun h => ?_) <;> simp only [go_sem,simprocAttr,h,n0,n1,hw,hls,hxx,hyi,hset_at,hset_hset] <;> (have h' := h; try simp only [bl] at h'))
         | (refine v_cond rfl (fun h => ?_) (fun h => ?_) <;> first | (exact Bool.noConfusion h) | (have h' := h; try simp only [bl] at h'))
         | (refine r_ret ?_; simp only [resL, resA, Try.f9, lk_cons', lk_nil', Nat.reduceBEq]; first | exact ⟨rfl, Sb.nil _, rfl⟩ | refine ⟨rfl, sbt ?_, rfl⟩ | refine ⟨rfl, Sb.of_eq ?_, rfl⟩)
         | (refine And.intro (by first | exact True.intro | omega | rfl | exact Nat.le_of_ble_eq_true rfl | (simp only [lnn]; omega) | exact List.forall_mem_nil _ | (refine List.forall_mem_cons.2 ⟨⟨_, rfl⟩, ?_⟩; repeat' first | exact List.forall_mem_nil _ | refine List.forall_mem_cons.2 ⟨⟨_, rfl⟩, ?_⟩)) ?_)
         | ((first | refine call_pure' (c_Within _ _ _) rfl ?_ | refine call_pure' (hw4) rfl ?_); simp only [go_sem,simprocAttr,n0,n1,hw,hls,hxx,hyi,hset_at,hset_hset])
         | (simp only [go_sem,simprocAttr,hls,hxx,hyi,hset_at,hset_hset])
         | fail
        all_goals try (exfalso; omega)
        refine ⟨(), ?_⟩
        rw [hM0, hys]
        exact ent_rows [(X, [iv (M i).sign, isl (digs (M i).natAbs)]), (A, wcl (lst M i)), (B, wcl (lst G i)), (0, ints ((yF xs os (lo, hi) i).set i (gi os ((i : Int) - lo))))] (by (repeat' first | exact trivial | refine ⟨?_, ?_⟩ | rfl)) rfl (by simp only [rowsOk, hset', hls]; simp [hxx, splice]; omega) (Nat.le_refl _)
    · obtain ⟨sM, dM, hqM⟩ : ∃ s d, s = (M i).sign ∧ d = digs (M i).natAbs := ⟨_, _, rfl, rfl⟩
      obtain ⟨sG, dG, hqG⟩ : ∃ s d, s = (G i).sign ∧ d = digs (G i).natAbs := ⟨_, _, rfl, rfl⟩
      rw [← hqM.1, ← hqM.2] at hsM ⊢
      rw [← hqG.1, ← hqG.2] at hsG hw6
      have hor2 : ∀ (s : Int) (d : List Int), oneL [AV.v (.int .i64 s), AV.sl 1 d.length (ints d)] = true := fun _ _ => rfl
      have hspM : ∀ (s : Int) (d : List Int), splice [AV.v (.int .i64 0), AV.v (.slice none 0 0)] 0 [AV.v (.int .i64 s), AV.sl 1 d.length (ints d)] = [AV.v (.int .i64 s), AV.sl 1 d.length (ints d)] := fun _ _ => splice_all rfl
      repeat' first
       | refine v_seq ?_ | refine v_block ?_ | refine v_ret ?_ | refine v_skip ?_ | (refine v_exit ?_; repeat' first | refine xB_eq ?_ | refine xB_ne rfl ?_)
       | ((first | refine rgA fun K hK => ?_ | refine rgB rfl fun K hK => ?_ | refine rgC rfl fun K hK => ?_); simp only [go_sem,simprocAttr,n0,n1,hls,hxx,hyi2,hyg2,hMl,hGl,hMo,hGo,htM,htG,hor2,hspM,hset_at,hset_hset])
       | (simp (disch := first | omega | rfl | (simp only [lnn]; omega)) only [spl])
       | (refine hK _ ?_; clear hK K)
       | (refine gdB_intro (fun h => ?_) (fun h => ?_) <;> simp only [go_sem,simprocAttr,h,n0,n1,hls,hxx,hyi2,hyg2,hMl,hGl,hMo,hGo,htM,htG,hor2,hspM,hset_at,hset_hset] <;> (have h' := h; try simp only [bl] at h'))
       | (refine v_cond rfl (fun h => ?_) (fun h => ?_) <;> first | (exact Bool.noConfusion h) | (have h' := h; try simp only [bl] at h'))
       | (refine r_ret ?_; simp only [resL, resA, Try.f9, lk_cons', lk_nil', Nat.reduceBEq]; first | exact ⟨rfl, Sb.nil _, rfl⟩ | refine ⟨rfl, sbt ?_, rfl⟩ | refine ⟨rfl, Sb.of_eq ?_, rfl⟩)
       | (refine And.intro (by first | exact True.intro | omega | rfl | exact Nat.le_of_ble_eq_true rfl | (simp only [lnn]; omega) | exact List.forall_mem_nil _ | (refine List.forall_mem_cons.2 ⟨⟨_, rfl⟩, ?_⟩; repeat' first | exact List.forall_mem_nil _ | refine List.forall_mem_cons.2 ⟨⟨_, rfl⟩, ?_⟩)) ?_)
       | ((first | refine call_pure' (hw2) rfl ?_ | refine call_pure' (hw5) rfl ?_ | refine call_pure' (hw6) rfl ?_); simp only [go_sem,simprocAttr,n0,n1,hls,hxx,hyi2,hyg2,hMl,hGl,hMo,hGo,htM,htG,hor2,hspM,hset_at,hset_hset])
       | (refine v_drawT evOk rfl [0, 4, 5, 6, 7, 10, 11, 12] (.cons 1 (.cons 2 (.cons 3 (.cons 8 (.cons 9 (.cons 13 (.cons 14 (.cons 15 (.cons 16 (.cons 17 (.cons 18 (.cons 19 .nil .nil) .nil) .nil) .nil) .nil) .nil) .nil) (.cons 13 (.cons 9 (.cons 14 (.cons 15 (.cons 16 (.cons 17 (.cons 18 (.cons 19 .nil .nil) .nil) .nil) .nil) .nil) .nil) .nil) .nil)) (.cons 13 (.cons 8 (.cons 9 (.cons 14 (.cons 15 (.cons 16 (.cons 17 (.cons 18 (.cons 19 .nil .nil) .nil) .nil) .nil) .nil) .nil) .nil) .nil) .nil)) (.cons 8 (.cons 3 (.cons 9 (.cons 13 (.cons 14 (.cons 15 (.cons 16 (.cons 17 (.cons 18 (.cons 19 .nil .nil) .nil) .nil) .nil) .nil) .nil) .nil) (.cons 13 (.cons 9 (.cons 14 (.cons 15 (.cons 16 (.cons 17 (.cons 18 (.cons 19 .nil .nil) .nil) .nil) .nil) .nil) .nil) .nil) .nil)) (.cons 13 (.cons 3 (.cons 9 (.cons 14 (.cons 15 (.cons 16 (.cons 17 (.cons 18 (.cons 19 .nil .nil) .nil) .nil) .nil) .nil) .nil) .nil) .nil) .nil)) (.cons 13 (.cons 3 (.cons 8 (.cons 9 (.cons 14 (.cons 15 (.cons 16 (.cons 17 (.cons 18 (.cons 19 .nil .nil) .nil) .nil) .nil) .nil) .nil) .nil) .nil) (.cons 8 (.cons 3 (.cons 9 (.cons 14 (.cons 15 (.cons 16 (.cons 17 (.cons 18 (.cons 19 .nil .nil) .nil) .nil) .nil) .nil) .nil) .nil) .nil) .nil)) .nil))) (.cons 8 (.cons 2 (.cons 3 (.cons 9 (.cons 13 (.cons 14 (.cons 15 (.cons 16 (.cons 17 (.cons 18 (.cons 19 .nil .nil) .nil) .nil) .nil) .nil) .nil) .nil) (.cons 13 (.cons 9 (.cons 14 (.cons 15 (.cons 16 (.cons 17 (.cons 18 (.cons 19 .nil .nil) .nil) .nil) .nil) .nil) .nil) .nil) .nil)) (.cons 13 (.cons 3 (.cons 9 (.cons 14 (.cons 15 (.cons 16 (.cons 17 (.cons 18 (.cons 19 .nil .nil) .nil) .nil) .nil) .nil) .nil) .nil) .nil) .nil)) (.cons 13 (.cons 2 (.cons 3 (.cons 9 (.cons 14 (.cons 15 (.cons 16 (.cons 17 (.cons 18 (.cons 19 .nil .nil) .nil) .nil) .nil) .nil) .nil) .nil) .nil) .nil) .nil)) (.cons 13 (.cons 2 (.cons 3 (.cons 8 (.cons 9 (.cons 14 (.cons 15 (.cons 16 (.cons 17 (.cons 18 (.cons 19 .nil .nil) .nil) .nil) .nil) .nil) .nil) .nil) .nil) (.cons 8 (.cons 3 (.cons 9 (.cons 14 (.cons 15 (.cons 16 (.cons 17 (.cons 18 (.cons 19 .nil .nil) .nil) .nil) .nil) .nil) .nil) .nil) .nil) .nil)) (.cons 8 (.cons 2 (.cons 3 (.cons 9 (.cons 14 (.cons 15 (.cons 16 (.cons 17 (.cons 18 (.cons 19 .nil .nil) .nil) .nil) .nil) .nil) .nil) .nil) .nil) .nil) .nil)) .nil))) (.cons 8 (.cons 1 (.cons 2 (.cons 3 (.cons 9 (.cons 13 (.cons 14 (.cons 15 (.cons 16 (.cons 17 (.cons 18 (.cons 19 .nil .nil) .nil) .nil) .nil) .nil) .nil) .nil) (.cons 13 (.cons 9 (.cons 14 (.cons 15 (.cons 16 (.cons 17 (.cons 18 (.cons 19 .nil .nil) .nil) .nil) .nil) .nil) .nil) .nil) .nil)) (.cons 13 (.cons 3 (.cons 9 (.cons 14 (.cons 15 (.cons 16 (.cons 17 (.cons 18 (.cons 19 .nil .nil) .nil) .nil) .nil) .nil) .nil) .nil) .nil) .nil)) (.cons 13 (.cons 2 (.cons 3 (.cons 9 (.cons 14 (.cons 15 (.cons 16 (.cons 17 (.cons 18 (.cons 19 .nil .nil) .nil) .nil) .nil) .nil) .nil) .nil) .nil) .nil) .nil)) (.cons 13 (.cons 1 (.cons 2 (.cons 3 (.cons 9 (.cons 14 (.cons 15 (.cons 16 (.cons 17 (.cons 18 (.cons 19 .nil .nil) .nil) .nil) .nil) .nil) .nil) .nil) .nil) .nil) .nil) .nil)) (.cons 13 (.cons 1 (.cons 2 (.cons 3 (.cons 8 (.cons 9 (.cons 14 (.cons 15 (.cons 16 (.cons 17 (.cons 18 (.cons 19 .nil .nil) .nil) .nil) .nil) .nil) .nil) .nil) .nil) (.cons 8 (.cons 3 (.cons 9 (.cons 14 (.cons 15 (.cons 16 (.cons 17 (.cons 18 (.cons 19 .nil .nil) .nil) .nil) .nil) .nil) .nil) .nil) .nil) .nil)) (.cons 8 (.cons 2 (.cons 3 (.cons 9 (.cons 14 (.cons 15 (.cons 16 (.cons 17 (.cons 18 (.cons 19 .nil .nil) .nil) .nil) .nil) .nil) .nil) .nil) .nil) .nil) .nil)) (.cons 8 (.cons 1 (.cons 2 (.cons 3 (.cons 9 (.cons 14 (.cons 15 (.cons 16 (.cons 17 (.cons 18 (.cons 19 .nil .nil) .nil) .nil) .nil) .nil) .nil) .nil) .nil) .nil) .nil) .nil)) .nil))) (by kernel_rfl) (fun K hK => ?_); simp only [go_sem,simprocAttr,OT.isNil,List.filterMap_cons,List.filterMap_nil,n0,hls,hxx,hset_at,hset_hset])
       | exact wpK_nil
       | (refine wpK_cons rfl ?_ ?_ <;> try simp only [go_sem,simprocAttr,OT.isNil,isl,hls,hxx,hyi2,hyg2,hMl,hGl,hMo,hGo,htM,htG,hor2,hspM,hset_at,hset_hset])
       | (simp only [go_sem,simprocAttr,OT.isNil,isl,hxx,hyi2,hyg2,hMl,hGl,hMo,hGo,htM,htG,hor2,hspM,hset_at,hset_hset])
       | fail
      all_goals try (exfalso; omega)
      all_goals exact ⟨(i + 1, X + 1 + 1, X + 1 + 1 + 1 + 1, X + 1 + 1 + 1 + 1 + 1), ent_rows _ (by (repeat' first | exact trivial | refine ⟨?_, ?_⟩ | rfl)) rfl (by simp only [rowsOk, hset', hls]; rw [hsM, hsG]; simp [hxx]) (Nat.le_refl _), ⟨by (first | omega | (dsimp only; omega)), by (first | omega | (dsimp only; omega)), by (first | omega | (dsimp only; omega)), by (first | omega | (dsimp only; omega)), by (first | omega | (dsimp only; omega)), by (first | omega | (dsimp only; omega))⟩, by (first | omega | (dsimp only; omega))⟩
  · obtain rfl : i = xs.length := by omega
    have hd : decide ((xs.length : Int) < xs.length) = false := decide_eq_false (by omega)
    have e1 : (0 == A) = false := beq_ne (by omega)
    have e2 : (A == 0) = false := beq_ne (by omega)
    have e3 : (0 == B) = false := beq_ne (by omega)
    have e4 : (B == 0) = false := beq_ne (by omega)
    have e5 : (A == B) = false := beq_ne (by omega)
    have e6 : (B == A) = false := beq_ne (by omega)
    clear hxx
    refine vc_ent ((ent_freezeH 0 (c := ints (yF xs os (lo, hi) xs.length)) (by simp only [hls, hset', e1, e2, e3, e4, e5, e6, cond_false, cond_true, beq_self_eq_true]) (ints_plain _)).trans ((ent_freezeH A (c := wcl (lst M xs.length)) (by dsimp only; rw [hfz']; simp only [hls, hset', e1, e2, e3, e4, e5, e6, cond_false, cond_true, beq_self_eq_true, Option.map_some]; rw [fzL_plain _ _ (wcl_plain _)]) (wcl_plain _)).trans ((ent_freezeH B (c := wcl (lst G xs.length)) (by dsimp only; rw [hfz', hfz']; simp only [hls, hset', e1, e2, e3, e4, e5, e6, cond_false, cond_true, beq_self_eq_true, Option.map_some]; rw [fzL_plain _ _ (wcl_plain _), fzL_plain _ _ (wcl_plain _)]) (wcl_plain _)).trans (ent_rows (fr := [(0, isl xs), (7, .sl 2 1 [iv lo, iv hi]), (8, .sl 3 1 [iv lo, iv D, isl NU]), (12, isl (yF xs os (lo, hi) xs.length)), (13, .sl 2 xs.length (wcl (lst M xs.length))), (14, .sl 2 xs.length (wcl (lst G xs.length))), (15, iv xs.length)]) [] ?_ rfl trivial (Nat.le_refl _))))) ?_
    · have hle : 0 + xs.length * 1 ≤ (ints (yF xs os (lo, hi) xs.length)).length := by rw [ints_length, hyl]; omega
      have hle2 : 0 + xs.length * 2 ≤ xs.length * 2 := by omega
      have htk : List.take (xs.length * 1) (ints (yF xs os (lo, hi) xs.length)) = ints (yF xs os (lo, hi) xs.length) := List.take_of_length_le (by rw [ints_length, hyl]; omega)
      simp only [fzF, AV.fz, isl, iv, beq_self_eq_true, cond_true, cond_false, e1, e2, e3, e4, e5, e6, if_pos hle, if_pos hle2, List.drop_zero, htk, htM, htG, hyl, hMl, hGl]
      (repeat' first | exact trivial | refine ⟨?_, ?_⟩ | rfl)
    · have hyln := hyl xs.length
      have hyxs := yF_samples (m := (lo, hi)) hx hso xs.length
      have hygi : ∀ k : Nat, k < xs.length → gi (yF xs os (lo, hi) xs.length) (k : Nat) = oV xs os (lo, hi) k := fun k hk => by
        rw [yF_gi xs.length k (Nat.le_refl _) hk, decide_eq_true hk, cond_true]
      have hcY := c_CopyInts (yF xs os (lo, hi) xs.length) (by rw [hyln]; exact hl)
      have heY := c_EnergyOf (yF xs os (lo, hi) xs.length) (by rw [hyln]; exact hl)
      have hys : signalErr (yF xs os (lo, hi) xs.length) = 0 := signalErr_of (by omega) hyxs
      rw [hys] at heY
      have hcZ := c_CopyInts z (by rw [hzl]; exact hl)
      have heZ := c_EnergyOf z (by rw [hzl]; exact hl)
      rw [signalErr_of (by omega) hzs] at heZ
      generalize hYe : yF xs os (lo, hi) xs.length = Y at *
      by_cases hD : D = 1
      · cases hNS : areSamples NU
        · rw [hNS] at hns
          repeat' first
           | refine v_seq ?_ | refine v_block ?_ | refine v_ret ?_ | refine v_skip ?_ | (refine v_exit ?_; repeat' first | refine xB_eq ?_ | refine xB_ne rfl ?_)
           | ((first | refine rgA fun K hK => ?_ | refine rgB rfl fun K hK => ?_ | refine rgC rfl fun K hK => ?_); simp only [go_sem,simprocAttr,n0,n1,hd,hD,hsgn,bne_self_eq_false,beq_self_eq_true])
           | (simp (disch := first | omega | rfl | (simp only [lnn]; omega)) only [spl])
           | (refine hK _ ?_; clear hK K)
           | (refine gdB_intro (fun h => ?_) (fun h => ?_) <;> simp only [go_sem,simprocAttr,h,n0,n1,hd,hD,hsgn,bne_self_eq_false,beq_self_eq_true] <;> (have h' := h; try simp only [bl] at h'))
           | (refine v_cond rfl (fun h => ?_) (fun h => ?_) <;> first | (exact Bool.noConfusion h) | (have h' := h; try simp only [bl] at h'))
           | (refine r_ret ?_; simp only [resL, resA, Try.f9, lk_cons', lk_nil', Nat.reduceBEq]; first | exact ⟨rfl, Sb.nil _, rfl⟩ | refine ⟨rfl, sbt ?_, rfl⟩ | refine ⟨rfl, Sb.of_eq ?_, rfl⟩)
           | (refine And.intro (by first | exact True.intro | omega | rfl | exact Nat.le_of_ble_eq_true rfl | (simp only [lnn]; omega) | exact List.forall_mem_nil _ | (refine List.forall_mem_cons.2 ⟨⟨_, rfl⟩, ?_⟩; repeat' first | exact List.forall_mem_nil _ | refine List.forall_mem_cons.2 ⟨⟨_, rfl⟩, ?_⟩)) ?_)
           | ((first | refine call_pure' (hM1) rfl ?_ | refine call_pure' (hG1) rfl ?_ | refine call_pure' (hcm) rfl ?_ | refine call_pure' (hns) rfl ?_); simp only [go_sem,simprocAttr,n0,n1,hd,hD,hsgn,bne_self_eq_false,beq_self_eq_true])
           | fail
          all_goals try (exfalso; omega)
          all_goals skip
        · rw [hNS] at hns
          have hMin : ∀ k : Nat, k < xs.length → gi z (k : Nat) = M k := fun k hk => by
            rw [hzz, hD]
            have e : (fun _ : Nat => lo) = (fun j : Nat => (((fun _ : Nat => lo.toNat) j : Nat) : Int)) := funext fun _ => (Int.toNat_of_nonneg hlo).symm
            rw [e]
            refine gi_interTo_in (ys := xs) (s := M) (lo := fun _ => lo.toNat) (nm := fun _ => NU) (i := k) 1 (fun j _ => ⟨by (first | omega | (dsimp only; omega)), fun p hp => ?_⟩) ?_
            · have hMp : M (lo.toNat + p) = gi NU (p : Nat) := by
                rw [← hMf]
                unfold valV
                rw [within_iff.2 (by omega), cond_true]
                congr 1
                omega
              rw [hMp]
              exact ⟨rfl, sample_gi hNS _⟩
            · cases hw : within (k : Nat) lo hi
              · refine .inl ?_
                rw [← hMf]
                unfold valV
                rw [hw, cond_false, hD, Int.mul_one]
              · have := within_iff.1 hw
                exact .inr ⟨0, by decide, by (first | omega | (dsimp only; omega)), by (first | omega | (dsimp only; omega))⟩
          have hZE : energy z = sumTo (fun t => dU M t * dU M t) (xs.length - 2) := by
            rw [energy_dU (f := M) (fun k hk => hMin k (by omega)), hzl]
          have hYE : energy Y = sumTo (fun t => dU G t * dU G t) (xs.length - 2) := by
            rw [energy_dU (f := G) (fun k hk => by rw [hygi k (by omega), ← hGf, hD]; exact (Int.mul_one _).symm), hyln]
          have hZb := sumTo_bound (f := fun i : Nat => second z i * second z i) (n := z.length) (c := 131068 * 131068) fun j _ => sq_bound (second_bound hzs j).1 (second_bound hzs j).2
          have hZb' : 0 ≤ energy z ∧ energy z ≤ z.length * (131068 * 131068) := hZb
          rw [hzl] at hZb'
          rw [← hZE] at hM1 hcm hmin hsgn
          rw [← hYE] at hG1 hcm hmin hsgn
          have hwE := c_WideOf (energy z) (by omega)
          have hmm : decide (energy z ≤ energy Y) = true := decide_eq_true hmin
          have hcE := c_WideCmp (energy z) (energy z) (Nat.le_trans (dl4 (by omega)) (by decide)) (Nat.le_trans (dl4 (by omega)) (by decide))
          rw [Int.sub_self] at hcE
          have hsg0 : Int.sign 0 = 0 := rfl
          rw [hsg0] at hcE
          repeat' first
           | refine v_seq ?_ | refine v_block ?_ | refine v_ret ?_ | refine v_skip ?_ | (refine v_exit ?_; repeat' first | refine xB_eq ?_ | refine xB_ne rfl ?_)
           | ((first | refine rgA fun K hK => ?_ | refine rgB rfl fun K hK => ?_ | refine rgC rfl fun K hK => ?_); simp only [go_sem,simprocAttr,n0,n1,hd,hD,hsgn,hmm,bne_self_eq_false,beq_self_eq_true])
           | (simp (disch := first | omega | rfl | (simp only [lnn]; omega)) only [spl])
           | (refine hK _ ?_; clear hK K)
           | (refine gdB_intro (fun h => ?_) (fun h => ?_) <;> simp only [go_sem,simprocAttr,h,n0,n1,hd,hD,hsgn,hmm,bne_self_eq_false,beq_self_eq_true] <;> (have h' := h; try simp only [bl] at h'))
           | (refine v_cond rfl (fun h => ?_) (fun h => ?_) <;> first | (exact Bool.noConfusion h) | (have h' := h; try simp only [bl] at h'))
           | (refine r_ret ?_; simp only [resL, resA, Try.f9, lk_cons', lk_nil', Nat.reduceBEq]; first | exact ⟨rfl, Sb.nil _, rfl⟩ | refine ⟨rfl, sbt ?_, rfl⟩ | refine ⟨rfl, Sb.of_eq ?_, rfl⟩)
           | (refine And.intro (by first | exact True.intro | omega | rfl | exact Nat.le_of_ble_eq_true rfl | (simp only [lnn]; omega) | exact List.forall_mem_nil _ | (refine List.forall_mem_cons.2 ⟨⟨_, rfl⟩, ?_⟩; repeat' first | exact List.forall_mem_nil _ | refine List.forall_mem_cons.2 ⟨⟨_, rfl⟩, ?_⟩)) ?_)
           | ((first | refine call_pure' (hM1) rfl ?_ | refine call_pure' (hG1) rfl ?_ | refine call_pure' (hcm) rfl ?_ | refine call_pure' (hns) rfl ?_ | refine call_pure' (hcx) rfl ?_ | refine call_pure' (hcp) rfl ?_ | refine call_pure' (hin) rfl ?_ | refine call_pure' (hcZ) rfl ?_ | refine call_pure' (heZ) rfl ?_ | refine call_pure' (hcY) rfl ?_ | refine call_pure' (heY) rfl ?_ | refine call_pure' (hwE) rfl ?_ | refine call_pure' (hcE) rfl ?_); simp only [go_sem,simprocAttr,n0,n1,hd,hD,hsgn,hmm,bne_self_eq_false,beq_self_eq_true])
           | fail
          all_goals try (exfalso; omega)
          all_goals skip
      · have hD1 : (D == 1) = false := beq_false_of_ne hD
        have hD2 : decide (D = 1) = false := decide_eq_false hD
        repeat' first
         | refine v_seq ?_ | refine v_block ?_ | refine v_ret ?_ | refine v_skip ?_ | (refine v_exit ?_; repeat' first | refine xB_eq ?_ | refine xB_ne rfl ?_)
         | ((first | refine rgA fun K hK => ?_ | refine rgB rfl fun K hK => ?_ | refine rgC rfl fun K hK => ?_); simp only [go_sem,simprocAttr,n0,n1,hd,hD1,hD2,hsgn,bne_self_eq_false,beq_self_eq_true])
         | (simp (disch := first | omega | rfl | (simp only [lnn]; omega)) only [spl])
         | (refine hK _ ?_; clear hK K)
         | (refine gdB_intro (fun h => ?_) (fun h => ?_) <;> simp only [go_sem,simprocAttr,h,n0,n1,hd,hD1,hD2,hsgn,bne_self_eq_false,beq_self_eq_true] <;> (have h' := h; try simp only [bl] at h'))
         | (refine v_cond rfl (fun h => ?_) (fun h => ?_) <;> first | (exact Bool.noConfusion h) | (have h' := h; try simp only [bl] at h'))
         | (refine r_ret ?_; simp only [resL, resA, Try.f9, lk_cons', lk_nil', Nat.reduceBEq]; first | exact ⟨rfl, Sb.nil _, rfl⟩ | refine ⟨rfl, sbt ?_, rfl⟩ | refine ⟨rfl, Sb.of_eq ?_, rfl⟩)
         | (refine And.intro (by first | exact True.intro | omega | rfl | exact Nat.le_of_ble_eq_true rfl | (simp only [lnn]; omega) | exact List.forall_mem_nil _ | (refine List.forall_mem_cons.2 ⟨⟨_, rfl⟩, ?_⟩; repeat' first | exact List.forall_mem_nil _ | refine List.forall_mem_cons.2 ⟨⟨_, rfl⟩, ?_⟩)) ?_)
         | ((first | refine call_pure' (hM1) rfl ?_ | refine call_pure' (hG1) rfl ?_ | refine call_pure' (hcm) rfl ?_); simp only [go_sem,simprocAttr,n0,n1,hd,hD1,hD2,hsgn,bne_self_eq_false,beq_self_eq_true])
         | fail
        all_goals try (exfalso; omega)
        all_goals skip
end Go.Proofs.Ytbobgnkohnbonaa

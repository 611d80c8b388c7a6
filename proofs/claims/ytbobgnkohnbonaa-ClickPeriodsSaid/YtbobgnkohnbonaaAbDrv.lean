/- The abstract machine, part 15: the rules in the shape in which walks use them. -/
import Derived.Test.YtbobgnkohnbonaaAbPure
set_option linter.unusedSimpArgs false
set_option linter.unusedVariables false
namespace Go.Ab
open Go.RowKit

def xB (id : Nat) (N : St → Prop) (X : Nat → St → Prop) (j : Nat) (σ : St) : Prop := bif Nat.beq j id then N σ else X j σ

section
variable {E : Ev} {mu : List Nat} {N R : St → Prop} {X : Nat → St → Prop} {σ : St}

theorem xB_eq {id : Nat} (h : N σ) : xB id N X id σ := by unfold xB; rw [show Nat.beq id id = true from by simp, cond_true]; exact h
theorem xB_ne {id j : Nat} (e : Nat.beq j id = false) (h : X j σ) : xB id N X j σ := by unfold xB; rw [e, cond_false]; exact h

theorem v_seq {x y : Code} (h : VC E mu x ⟨fun σ => VC E mu y ⟨N, X, R⟩ σ, X, R⟩ σ) : VC E mu (.seq x y) ⟨N, X, R⟩ σ := vc_seq h
theorem v_skip (h : N σ) : VC E mu .skip ⟨N, X, R⟩ σ := vc_skip h
theorem v_ret (h : R σ) : VC E mu .ret ⟨N, X, R⟩ σ := vc_ret h
theorem v_exit {id : Nat} (h : X id σ) : VC E mu (.exit id) ⟨N, X, R⟩ σ := vc_exit h
theorem v_block {id : Nat} {c : Code} (h : VC E mu c ⟨N, xB id N X, R⟩ σ) : VC E mu (.block id c) ⟨N, X, R⟩ σ := by
  refine vc_block ?_
  have : (fun j σ => if j = id then N σ else X j σ) = xB id N X := by
    funext j σ
    unfold xB
    by_cases e : j = id
    · subst e; simp
    · rw [if_neg e, show Nat.beq j id = false from (Bool.eq_false_iff.2 fun h => e (Nat.eq_of_beq_eq_true h)), cond_false]
  dsimp only
  rw [this]
  exact h
theorem v_cond {c : Operand} {x y : Code} {b : Bool} (hb : σ.ge c = .v (.bool b)) (ht : b = true → VC E mu x ⟨N, X, R⟩ σ) (hf : b = false → VC E mu y ⟨N, X, R⟩ σ) : VC E mu (.cond c x y) ⟨N, X, R⟩ σ := vc_cond hb ht hf
theorem v_region (hE : EvOk E) {id : Nat} {l : List Oper} (h : ∀ K : St → Prop, (∀ σ', N σ' → K σ') → wpA E mu l.toArray l σ K) : VC E mu (.region id l.toArray false) ⟨N, X, R⟩ σ := vc_region hE h
theorem v_draw (hE : EvOk E) {id : Nat} {l : List Oper} (k : Nat) (hb : drawB false mu l k = true) (h : ∀ K : St → Prop, (∀ σ', N σ' → K σ') → wpA E mu l.toArray l σ K) : VC E mu (.region id l.toArray true) ⟨N, X, R⟩ σ := vc_draw hE (fl := false) (fun h => by cases h) k hb h
/-- How many operations at the head are still ones. -/
def headStill (mu : List Nat) : List Oper → Nat
  | [] => 0
  | o :: l => bif isMut mu o then 0 else headStill mu l + 1
theorem v_draw' (hE : EvOk E) {id : Nat} {l : List Oper} (hb : drawB false mu l (headStill mu l) = true) (h : ∀ K : St → Prop, (∀ σ', N σ' → K σ') → wpA E mu l.toArray l σ K) : VC E mu (.region id l.toArray true) ⟨N, X, R⟩ σ := vc_draw hE (fl := false) (fun h => by cases h) _ hb h
/-- .. some of which may come late. -/
theorem v_drawF (hE : EvOk E) {id : Nat} {l : List Oper} (hro : E.ro = none) (hb : drawB true mu l (headStill mu l) = true) (h : ∀ K : St → Prop, (∀ σ', N σ' → K σ') → wpA E mu l.toArray l σ K) : VC E mu (.region id l.toArray true) ⟨N, X, R⟩ σ := vc_draw hE (fl := true) (fun _ => hro) _ hb h
theorem v_loop {c : Code} {T : Type} (S : T → St) (φ : T → Prop) (μ : T → Nat) (x0 : T) (h0 : φ x0) (he : Ent σ (S x0))
    (step : ∀ x, φ x → VC E mu c ⟨fun σ' => ∃ x', Ent σ' (S x') ∧ φ x' ∧ μ x' < μ x, X, R⟩ (S x)) : VC E mu (.loop c) ⟨N, X, R⟩ σ := vc_loop S φ μ x0 h0 he step
theorem v_cut {x y : Code} {T : Type} (S : T → St) (φ : T → Prop) (hx : VC E mu x ⟨fun σ' => ∃ z, Ent σ' (S z) ∧ φ z, X, R⟩ σ) (hy : ∀ z, φ z → VC E mu y ⟨N, X, R⟩ (S z)) : VC E mu (.seq x y) ⟨N, X, R⟩ σ := vc_cut S φ hx hy

theorem p_intro {E : Ev} (hE : EvOk E) (mu : List Nat) {f : FuncId} {fn : Func} {c : Code} {avs : List AV} {r : AV} (hf : E.P.funcs[f]? = some fn) (hb : fn.body = some c) (hcan : Callable E.P f)
    (h : VC E mu c ⟨retP E fn r, fun _ _ => False, retP E fn r⟩ (entry avs fn.ntmps)) (hro : E.ro = none := by rfl) (hYn : E.Y = none := by rfl) : Pure E.P f avs r := pure_intro hE mu hf hb hcan h hro hYn

end
end Go.Ab

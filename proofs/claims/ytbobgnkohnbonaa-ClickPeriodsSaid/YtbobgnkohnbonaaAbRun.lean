/- The abstract machine, part 19: loops that are run. -/
import Derived.Test.YtbobgnkohnbonaaAbRange
set_option linter.unusedSimpArgs false
set_option linter.unusedVariables false
namespace Go.Ab
open Go.RowKit

/-- A loop, from the head of a round on. -/
def loopIn (F : Fence) (n : Nat) (P : Program) (c : Code) (Q : Exit → Act → World → Prop) (a : Act) (w : World) : Prop :=
  ∀ (b : Frame) (k : List Item) (cs : List Frame), b.roundOf = F.round → F.fn b.fn → F.room (cs.length + 1 + n) →
    ∃ e a' w', Q e a' w' ∧ ArrivesIn (Machine.fenced P F) P (lone (b.atR a (.code c :: .inLoop c :: k)) cs w) b k cs e a' w'

theorem loopIn_step {F : Fence} {n : Nat} {P : Program} {c : Code} {Q : Exit → Act → World → Prop} {a : Act} {w : World} (h : c.wpIn F n P (Exit.then (loopIn F n P c Q) Q) a w) : loopIn F n P c Q a w := by
  intro b k cs hro hb hr
  obtain ⟨e, a₁, w₁, hq, harr⟩ := h b (.inLoop c :: k) cs hro hb hr
  cases e with
  | normal =>
    obtain ⟨e₂, a₂, w₂, hq₂, harr₂⟩ := hq b k cs hro hb hr
    exact ⟨e₂, a₂, w₂, hq₂, .of_steps (StepsIn.trans harr (.one (fenced_calm hb hr rfl) stepR_inLoop)) harr₂⟩
  | exit id => exact ⟨_, a₁, w₁, hq, .pass (x := .inLoop c) rfl (fun _ _ => .inl (by simp)) harr⟩
  | goto l => exact ⟨_, a₁, w₁, hq, .pass (x := .inLoop c) rfl (fun _ _ => .inl (by simp)) harr⟩
  | ret => exact ⟨_, a₁, w₁, hq, .pass (x := .inLoop c) rfl (fun _ _ => .inl (by simp)) harr⟩
  | panic ch => exact ⟨_, a₁, w₁, hq, .pass (x := .inLoop c) rfl (fun _ _ => .inl (by simp)) harr⟩
  | outgrown => exact ⟨_, a₁, w₁, hq, .pass (x := .inLoop c) rfl (fun _ _ => .inl (by simp)) harr⟩

theorem loopIn_loop {F : Fence} {n : Nat} {P : Program} {c : Code} {Q : Exit → Act → World → Prop} {a : Act} {w : World} (h : loopIn F n P c Q a w) : (Code.loop c).wpIn F n P Q a w := by
  intro b k cs hro hb hr
  obtain ⟨e, a', w', hq, harr⟩ := h b k cs hro hb hr
  exact ⟨e, a', w', hq, .of_steps (.one (fenced_calm hb hr rfl) stepR_loop) harr⟩

/-- The rest of a loop, from the head of a round on. -/
def VL (E : Ev) (mu : List Nat) (c : Code) (Q : Post) (σ : St) : Prop := YOk E → ∀ (g : Gh) (β : Bt) (O : Nat → Prop) (a : Act) (w : World), Fit E g σ → Cn g β O σ a w → loopIn (Fn E.ro) 0 E.P c (PC E g Q) a w

section
variable {E : Ev} {mu : List Nat} {N R : St → Prop} {X : Nat → St → Prop} {σ : St} {c : Code}

theorem v_run (h : VL E mu c ⟨N, X, R⟩ σ) : VC E mu (.loop c) ⟨N, X, R⟩ σ := fun hY g β O a w hf hc => loopIn_loop (h hY g β O a w hf hc)
theorem v_round (h : VC E mu c ⟨fun σ' => VL E mu c ⟨N, X, R⟩ σ', X, R⟩ σ) : VL E mu c ⟨N, X, R⟩ σ := by
  intro hY g β O a w hf hc
  refine loopIn_step (wpIn_mono (h hY g β O a w hf hc) fun e a' w' hq => ?_)
  cases e with
  | normal =>
    obtain ⟨g', β', O', σ', hl, hf', h1, h2⟩ := hq
    intro b k cs hro hb hr
    obtain ⟨e, a'', w'', hq, harr⟩ := h1 hY g' β' O' _ _ hf' h2 b k cs hro hb hr
    exact ⟨e, a'', w'', hq.le hl, harr⟩
  | exit id => exact hq
  | ret => exact hq
  | _ => exact hq.elim
end
end Go.Ab

/- The abstract machine, part 17: unfolding rules that do not look into branches ahead of time. -/
import Derived.Test.YtbobgnkohnbonaaAbInts
set_option linter.unusedSimpArgs false
set_option linter.unusedVariables false
namespace Go.Ab
open Go.RowKit

theorem lk_nil' (t : Nat) : lk [] t = none := rfl
theorem lk_cons' (k : Nat) (v : AV) (l : List (Nat × AV)) (t : Nat) : lk ((k, v) :: l) t = match k == t with | true => some v | false => lk l t := by
  simp only [lk]; cases k == t <;> rfl
theorem runO' (E : Ev) (mu : List Nat) (ops : Array Oper) (o : Oper) (l : List Oper) (K : St → Prop) (σ : St) :
    runO E mu ops o l K σ = match isMut mu o with | true => mop E o σ (moK E mu ops l K) | false => sop E o σ.ge σ.hp σ.nx (opK E mu ops l o.dst K σ) := by
  unfold runO; cases isMut mu o <;> rfl
theorem gdB_true' (E : Ev) (mu : List Nat) (ops : Array Oper) (o : Oper) (l : List Oper) (d : Nat) (want : Bool) (K : St → Prop) (σ : St) :
    gdB E mu ops o l d want K σ true = match want with | true => runO E mu ops o l K (σ.put (some d) (.v (.bool true))) | false => opK E mu ops l o.dst K (σ.put (some d) (.v (.bool true))) (.v undef) := by
  rw [gdB_true]; cases want <;> rfl
theorem gdB_false' (E : Ev) (mu : List Nat) (ops : Array Oper) (o : Oper) (l : List Oper) (d : Nat) (want : Bool) (K : St → Prop) (σ : St) :
    gdB E mu ops o l d want K σ false = match want with | true => opK E mu ops l o.dst K (σ.put (some d) (.v (.bool false))) (.v undef) | false => runO E mu ops o l K (σ.put (some d) (.v (.bool false))) := by
  rw [gdB_false]; cases want <;> rfl
theorem cellsK' (ti : TI) (cs : List AV) (i : Nat) (K : AV → Prop) : cellsK ti cs i K = match ti.agg with
    | true => (i + ti.size ≤ cs.length ∧ K (.ag ((cs.drop i).take ti.size)))
    | false => match cs[i]? with
      | some c => K c
      | none => False := by
  unfold cellsK; cases ti.agg <;> rfl
theorem hset' (H : Hp) (k : Nat) (c : Option (List AV)) (j : Nat) : hset H k c j = match k == j with | true => c | false => H j := by
  unfold hset; cases k == j <;> rfl
theorem wpA_cons' (E : Ev) (mu : List Nat) (ops : Array Oper) (dst : Option Nat) (op : Op) (type : TypeId) (pos : String) (after : Array Edge) (guard : Option (Nat × Bool)) (l : List Oper) (σ : St) (K : St → Prop) :
    wpA E mu ops (⟨dst, op, type, pos, after, guard⟩ :: l) σ K = (dOk σ.n dst ∧
    match guard with
    | none => runO E mu ops ⟨dst, op, type, pos, after, guard⟩ l K σ
    | some (j, want) =>
      match (ops[j]?).bind (·.dst) with
      | some d =>
        match lk σ.fr d with
        | some (.v (.bool c)) => d < σ.n.1 ∧ gdB E mu ops ⟨dst, op, type, pos, after, guard⟩ l d want K σ c
        | some (.v (.tuple _)) => opK E mu ops l dst K σ (.v undef)
        | _ => False
      | none => False) := by
  rw [wpA_cons]; cases guard <;> rfl

theorem r_ret {E : Ev} {fn : Func} {r : AV} {σ : St} (h : resL E.T σ.hp σ.fr fn.results.toList fun as => (resA as).plain = true ∧ Sb (resA as) r ∧ r.plain = true) : retP E fn r σ := ⟨σ, Ent.refl _, h⟩
/-- A return with a row that is not written any more. -/
theorem r_freeze {E : Ev} {fn : Func} {r : AV} {σ : St} (k : Nat) {c : List AV} (hk : σ.hp k = some c) (hp : plainL c = true) (h : retP E fn r { σ with fr := fzF k c σ.fr, hp := hset σ.hp k none }) : retP E fn r σ :=
  let ⟨σ', he, h'⟩ := h
  ⟨σ', (ent_freeze k hk hp).trans he, h'⟩

theorem fz_ints {k off n : Nat} {xs : List Int} (h : off + n ≤ xs.length) : AV.fz k (ints xs) (.ls k off 1 n) = .sl 1 n (ints ((xs.drop off).take n)) := by
  simp [AV.fz, ints_length, h, ints_drop, ints_take]
theorem fz_isl {k n : Nat} {xs : List Int} (h : n = xs.length) : AV.fz k (ints xs) (.ls k 0 1 n) = isl xs := by
  rw [fz_ints (by omega)]; subst h; simp
theorem fz_other (k : Nat) (c : List AV) (v : Value) : AV.fz k c (.v v) = .v v := rfl

theorem all_of {p : Int → Bool} {xs : List Int} (h : ∀ j : Nat, j < xs.length → p (gi xs j) = true) : xs.all p = true := by
  rw [List.all_eq_true]
  intro x hx
  obtain ⟨j, hj, rfl⟩ := List.getElem_of_mem hx
  have := h j hj
  simpa [gi, hj] using this
theorem all_not {p : Int → Bool} {xs : List Int} {i : Nat} (hi : i < xs.length) (h : p (gi xs i) = false) : xs.all p = false := by
  rw [Bool.eq_false_iff, ne_eq, List.all_eq_true]
  intro h'
  have := h' xs[i] (List.getElem_mem hi)
  simp [gi, hi] at h
  rw [h] at this
  cases this
theorem below_succ {P : Nat → Prop} {i : Nat} (h : ∀ j, j < i → P j) (hi : P i) : ∀ j, j < i + 1 → P j := fun j hj => by
  rcases Nat.lt_or_ge j i with h' | h'
  · exact h j h'
  · rw [show j = i by omega]; exact hi

/-- Branches of a text that meet again. -/
theorem v_join {E : Ev} {mu : List Nat} {N R : St → Prop} {X : Nat → St → Prop} {σ : St} {x : Code} (S : St) (hx : VC E mu x ⟨fun σ' => Ent σ' S, X, R⟩ σ) (h : N S) : VC E mu x ⟨N, X, R⟩ σ :=
  vc_mono hx (fun σ' he => ⟨S, he, h⟩) (fun id σ' h => ⟨σ', Ent.refl _, h⟩) (fun σ' h => ⟨σ', Ent.refl _, h⟩)
theorem v_joinB {E : Ev} {mu : List Nat} {N R : St → Prop} {X : Nat → St → Prop} {σ : St} {x : Code} (d : Nat) (e : Bool) (hx : VC E mu x ⟨fun σ' => Ent σ' (σ.put (some d) (.v (.bool e))), X, R⟩ σ) (h : N (σ.put (some d) (.v (.bool e)))) : VC E mu x ⟨N, X, R⟩ σ := v_join _ hx h
end Go.Ab

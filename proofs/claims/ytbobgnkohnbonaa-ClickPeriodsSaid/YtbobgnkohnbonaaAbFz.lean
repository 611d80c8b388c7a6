/- The abstract machine, part 22: a row that is not written any more, and what other rows hold of it. -/
import Derived.Test.YtbobgnkohnbonaaAbFresh
set_option linter.unusedSimpArgs false
set_option linter.unusedVariables false
namespace Go.Ab
open Go.RowKit

def hfz (k : Nat) (c : List AV) (H : Hp) : Hp := fun j => bif k == j then none else (H j).map (List.map (AV.fz k c))
theorem hfz' (k : Nat) (c : List AV) (H : Hp) (j : Nat) : hfz k c H j = match k == j with | true => none | false => (H j).map (List.map (AV.fz k c)) := by
  unfold hfz; cases k == j <;> rfl

section
variable {σ : St}
theorem ent_freezeH (k : Nat) {c : List AV} (hk : σ.hp k = some c) (hp : plainL c = true) : Ent σ { σ with fr := fzF k c σ.fr, hp := hfz k c σ.hp } := by
  refine ⟨rfl, ?_⟩
  intro g β O a w hc
  -- the block, if there is one
  let O' : Nat → Prop := fun b => O b ∧ ∀ st, β k ≠ some (some (b, st))
  have hOO : ∀ b, O' b → O b := fun b h => h.1
  have ht : Tr O w O' w := ⟨Nat.le_refl _, fun b hb ho => ⟨rfl, fun h => ho h.1⟩, fun b arr e fz hb => ⟨arr, fz, hb, rfl⟩⟩
  have one : ∀ (x : AV) (u : Value), R β O w x u → ∀ y, (y = (match x with
    | .ls j off sz n => bif k == j then (if off + n * sz ≤ c.length then AV.sl sz n ((c.drop off).take (n * sz)) else .ls j off sz n) else .ls j off sz n
    | .lp j off => bif k == j then .pt c off else .lp j off
    | a => a)) → R β O' w y u := by
    intro x u hx y hy
    have keep : R β O' w x u := hx.mono ht (fun _ _ h => h)
    have cellsOk : ∀ b st, β k = some (some (b, st)) → ¬ O' b ∧ b < w.heap.size ∧ ∀ (j : Nat) (y : AV), c[j]? = some y → ∃ v : Value, w.cell? ⟨b, st + j, none⟩ = some v ∧ Rp O' w y v := by
      intro b st hb
      refine ⟨fun h => h.2 st hb, ?_⟩
      rcases hc.hc.row k c hk with ⟨h1, _⟩ | ⟨b', st', h1, _, _, hrow⟩
      · rw [hb] at h1; cases h1
      · rw [hb] at h1; cases h1
        refine ⟨hrow.lt, fun j y hj => ?_⟩
        obtain ⟨v, p, q⟩ := hrow.cell hj
        exact ⟨v, p, (q.plain (plainL_get hp hj)).mono ht⟩
    subst hy
    split
    · rename_i j off sz n
      by_cases e : k = j
      · subst e
        simp only [BEq.rfl, cond_true]
        split
        · rename_i hle
          rcases hx.ls_inv with ⟨h1, rfl, ad, rfl, had⟩ | ⟨b, st, cap, h1, hn, rfl, _⟩
          · simp only [Nat.zero_mul, List.take_zero]
            cases ad with
            | none => exact .pl _ _ (.nil sz)
            | some ad =>
              obtain ⟨b, of, rfl, hO, hb⟩ := had ad rfl
              exact .pl _ _ (Rp.mk_sl (fun h => hO h.1) hb (Nat.le_refl _) (by simp) (fun i c hi => by simp at hi))
          · obtain ⟨h2, h3, h4⟩ := cellsOk b st h1
            refine .pl _ _ (Rp.mk_sl h2 h3 hn (by simp; omega) fun i y hi => ?_)
            rw [List.getElem?_take] at hi
            split at hi
            · rw [List.getElem?_drop] at hi
              rw [Nat.add_assoc]
              exact h4 _ _ hi
            · cases hi
        · exact keep
      · rw [show (k == j) = false by simpa using e, cond_false]; exact keep
    · rename_i j off
      by_cases e : k = j
      · subst e
        simp only [BEq.rfl, cond_true]
        obtain ⟨b, st, h1, rfl⟩ := hx.lp_inv
        obtain ⟨h2, h3, h4⟩ := cellsOk b st h1
        exact .pl _ _ (Rp.mk_pt h2 h3 h4)
      · rw [show (k == j) = false by simpa using e, cond_false]; exact keep
    · exact keep
  have fzR : ∀ (x : AV) (u : Value), R β O w x u → R β O' w (x.fz k c) u := by
    intro x u hx
    cases x with
    | ag cs =>
      obtain ⟨us, rfl, hs, hu⟩ := hx.ag_inv
      simp only [AV.fz]
      refine R.mk_ag (by simp [hs]) fun i y hy => ?_
      rw [List.getElem?_map] at hy
      cases hq : cs[i]? with
      | none => simp [hq] at hy
      | some z =>
        rw [hq, Option.map_some, Option.some.injEq] at hy
        obtain ⟨v, p, q⟩ := hu i z hq
        exact ⟨v, p, one z v q y hy.symm⟩
    | ls j off sz n => exact one _ u hx _ rfl
    | lp j off => exact one _ u hx _ rfl
    | _ => exact hx.mono ht (fun _ _ h => h)
  have hd := hc_drop hc.hc k
  have hrk : ∀ b st, β k = some (some (b, st)) → ¬ g.B0 b := fun b st hst => by
    rcases hc.hc.row k c hk with ⟨h1, _⟩ | ⟨b', st', h1, _, h3, _⟩
    · rw [hst] at h1; cases h1
    · rw [hst] at h1; cases h1; exact h3
  have hpr : Pr g.B0 O w O' w := ⟨rfl, rfl, rfl, fun _ _ => rfl, fun b hb ho => ⟨ho, fun st hst => hrk b st hst hb⟩, fun h b hb => h b hb.1⟩
  have hfn : ∀ j, hfz k c σ.hp j ≠ none → k ≠ j ∧ σ.hp j ≠ none := fun j h => by
    unfold hfz at h
    by_cases e : k = j
    · subst e; simp at h
    · rw [show (k == j) = false by simpa using e, cond_false] at h
      exact ⟨e, fun h' => by rw [h'] at h; exact h rfl⟩
  refine ⟨β, O', ⟨hc.defers.tr ht, fun t av hav => ?_, hc.sz, ⟨fun j c' hj => ?_, fun i j b st st' h1 h2 h3 h4 => hc.hc.inj i j b st st' (hfn i h1).2 (hfn j h2).2 h3 h4, fun b hb => hc.hc.own b hb.1, fun b hb => ⟨⟨(hc.hc.base b hb).1, fun st hst => hrk b st hst (hc.hc.base b hb).2⟩, (hc.hc.base b hb).2⟩, fun j hj => ?_, hc.hc.fresh⟩, g.stab _ _ _ _ hc.inv ht hpr, hc.b0, hc.pp, hc.prot, hc.tr.trans ht⟩⟩
  · change lk (fzF k c σ.fr) t = some av at hav
    rw [lk_fzF] at hav
    cases hq : lk σ.fr t with
    | none => simp [hq] at hav
    | some x =>
      rw [hq, Option.map_some, Option.some.injEq] at hav
      obtain ⟨u, p, q⟩ := hc.fr t x hq
      exact ⟨u, p, hav ▸ fzR x u q⟩
  · have hj' : hfz k c σ.hp j = some c' := hj
    obtain ⟨hkj, hne⟩ := hfn j (by rw [hj']; simp)
    unfold hfz at hj'
    rw [show (k == j) = false by simpa using hkj, cond_false] at hj'
    cases hq : σ.hp j with
    | none => exact absurd hq hne
    | some d =>
      rw [hq, Option.map_some, Option.some.injEq] at hj'
      subst hj'
      rcases hc.hc.row j d hq with ⟨h1, rfl⟩ | ⟨b, st, h1, h2, h3, arr, e, h4, h5, h6⟩
      · exact .inl ⟨h1, rfl⟩
      · refine .inr ⟨b, st, h1, ⟨h2, fun st' hst => hkj (hc.hc.inj k j b st' st (by rw [hk]; simp) hne hst h1)⟩, h3, arr, e, h4, by simpa using h5, fun i x hi => ?_⟩
        rw [List.getElem?_map] at hi
        cases hz : d[i]? with
        | none => simp [hz] at hi
        | some z =>
          rw [hz, Option.map_some, Option.some.injEq] at hi
          obtain ⟨u, p, q⟩ := h6 i z hz
          exact ⟨u, p, hi ▸ fzR z u q⟩
  · show hfz k c σ.hp j = none
    unfold hfz
    rw [hc.hc.free j hj]
    cases k == j <;> rfl

end

/-- A return with a row that is not written any more. -/
theorem r_freezeH {E : Ev} {fn : Func} {r : AV} {σ : St} (k : Nat) {c : List AV} (hk : σ.hp k = some c) (hp : plainL c = true) (h : retP E fn r { σ with fr := fzF k c σ.fr, hp := hfz k c σ.hp }) : retP E fn r σ :=
  let ⟨σ', he, h'⟩ := h
  ⟨σ', (ent_freezeH k hk hp).trans he, h'⟩
end Go.Ab

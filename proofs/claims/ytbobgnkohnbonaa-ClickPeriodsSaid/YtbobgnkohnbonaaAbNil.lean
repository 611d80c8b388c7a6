/- The abstract machine, part 20: nil slices that are taken for rows of their own. -/
import Derived.Test.YtbobgnkohnbonaaAbRun
set_option linter.unusedSimpArgs false
set_option linter.unusedVariables false
namespace Go.Ab
open Go.RowKit

/-- A nil slice in a slot. -/
theorem ent_nil_slot {σ : St} (t sz : Nat) (ht : lk σ.fr t = some (.v (.slice none 0 0))) : Ent σ { σ with fr := (t, .ls σ.nx 0 sz 0) :: σ.fr, hp := hset σ.hp σ.nx (some []), nx := σ.nx + 1 } := by
  refine ⟨rfl, fun g β O a w hc => ?_⟩
  obtain ⟨h1, h2⟩ := hc_nil hc.hc
  have hs := hc.step (Tr.refl O w) h2 h1 (Pr.refl _ _ _)
  refine ⟨_, O, ⟨hs.defers, fun s av hsv => ?_, hs.sz, hs.hc, hs.inv, hs.b0, hs.pp, hs.prot, hs.tr⟩⟩
  change lk ((t, AV.ls σ.nx 0 sz 0) :: σ.fr) s = some av at hsv
  rw [lk_cons'] at hsv
  cases e : (t == s) with
  | true =>
    rw [e] at hsv
    cases hsv
    have : t = s := by simpa using e
    subst this
    obtain ⟨u, p, q⟩ := hc.fr t _ ht
    exact ⟨u, p, by rw [q.v_inv]; exact .lsn _ _ _ none (by simp) (fun ad h => by cases h)⟩
  | false =>
    rw [e] at hsv
    exact hs.fr s av hsv

/-- A nil slice in a row. -/
theorem ent_nil_cell {σ : St} (k j sz : Nat) {c : List AV} (hk : σ.hp k = some c) (hj : c[j]? = some (.v (.slice none 0 0))) : Ent σ { σ with hp := hset (hset σ.hp k (some (c.set j (.ls σ.nx 0 sz 0)))) σ.nx (some []), nx := σ.nx + 1 } := by
  refine ⟨rfl, fun g β O a w hc => ?_⟩
  obtain ⟨h1, h2⟩ := hc_nil hc.hc
  have hs := hc.step (Tr.refl O w) h2 h1 (Pr.refl _ _ _)
  have hkn : k ≠ σ.nx := fun e => by rw [e, hc.hc.free σ.nx (Nat.le_refl _)] at hk; cases hk
  have look : ∀ i, hset (hset σ.hp k (some (c.set j (.ls σ.nx 0 sz 0)))) σ.nx (some []) i = if i = k then some (c.set j (.ls σ.nx 0 sz 0)) else hset σ.hp σ.nx (some []) i := by
    intro i
    rw [hset', hset']
    by_cases e1 : σ.nx = i
    · subst e1
      rw [if_neg (Ne.symm hkn), hset']
      simp
    · rw [show (σ.nx == i) = false by simpa using e1]
      dsimp only
      by_cases e2 : i = k
      · subst e2; simp
      · rw [if_neg e2, show (k == i) = false by simpa using Ne.symm e2, hset', show (σ.nx == i) = false by simpa using e1]
  have dom : ∀ i, hset (hset σ.hp k (some (c.set j (.ls σ.nx 0 sz 0)))) σ.nx (some []) i ≠ none → hset σ.hp σ.nx (some []) i ≠ none := by
    intro i hi
    rw [look i] at hi
    by_cases e : i = k
    · subst e
      rw [hset', show (σ.nx == i) = false by simpa using Ne.symm hkn]
      dsimp only
      rw [hk]; simp
    · rwa [if_neg e] at hi
  refine ⟨_, O, ⟨hs.defers, hs.fr, hs.sz, ⟨fun i c' hi => ?_, fun i i' b st st' a1 a2 => hs.hc.inj i i' b st st' (dom i a1) (dom i' a2), hs.hc.own, hs.hc.base, fun i hi => ?_, hs.hc.fresh⟩, hs.inv, hs.b0, hs.pp, hs.prot, hs.tr⟩⟩
  · change hset (hset σ.hp k (some (c.set j (.ls σ.nx 0 sz 0)))) σ.nx (some []) i = some c' at hi
    rw [look i] at hi
    by_cases e : i = k
    · subst e
      rw [if_pos rfl] at hi
      cases hi
      rcases hs.hc.row i c (by rw [hset', show (σ.nx == i) = false by simpa using Ne.symm hkn]; exact hk) with ⟨q, rfl⟩ | ⟨b, st, q1, q2, q3, arr, e, q4, q5, q6⟩
      · simp at hj
      · refine .inr ⟨b, st, q1, q2, q3, arr, e, q4, by simpa using q5, fun j' x hx => ?_⟩
        rw [List.getElem?_set] at hx
        by_cases ej : j = j'
        · subst ej
          rw [if_pos rfl] at hx
          split at hx
          · cases hx
            obtain ⟨u, p, q⟩ := q6 j _ hj
            exact ⟨u, p, by rw [q.v_inv]; exact .lsn _ _ _ none (by simp) (fun ad h => by cases h)⟩
          · cases hx
        · rw [if_neg ej] at hx
          exact q6 j' x hx
    · rw [if_neg e] at hi
      exact hs.hc.row i c' hi
  · show hset (hset σ.hp k (some (c.set j (.ls σ.nx 0 sz 0)))) σ.nx (some []) i = none
    have hi' : σ.nx + 1 ≤ i := hi
    have : i ≠ k := fun e => by
      subst e
      rw [hc.hc.free i (by omega)] at hk; cases hk
    rw [look i, if_neg this]
    exact hs.hc.free i hi'
end Go.Ab

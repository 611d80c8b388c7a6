/- The abstract machine, part 16: slices of numbers, flattened structures, frames that hold what is asked. -/
import Derived.Test.YtbobgnkohnbonaaAbDrv
set_option linter.unusedSimpArgs false
set_option linter.unusedVariables false
namespace Go.Ab
open Go.RowKit

/-! ### numbers -/
abbrev iv (x : Int) : AV := .v (.int .i64 x)
def ints (xs : List Int) : List AV := xs.map fun x => .v (.int .i64 x)
/-- The number at an index, 0 outside. -/
def gi (xs : List Int) (i : Int) : Int := xs.getD i.toNat 0
abbrev isl (xs : List Int) : AV := .sl 1 xs.length (ints xs)
def I64 (n : Int) : Prop := -9223372036854775808 ≤ n ∧ n ≤ 9223372036854775807
def I64L (xs : List Int) : Prop := ∀ x ∈ xs, I64 x

theorem I64L.gi {xs : List Int} (h : I64L xs) (i : Int) : I64 (gi xs i) := by
  unfold Ab.gi
  rw [List.getD_eq_getElem?_getD]
  cases e : xs[i.toNat]? with
  | none => exact ⟨by decide, by decide⟩
  | some x => exact h x (List.mem_of_getElem? e)

theorem ints_nil : ints [] = [] := rfl
theorem ints_cons (x : Int) (l : List Int) : ints (x :: l) = .v (.int .i64 x) :: ints l := rfl
theorem ints_length (xs : List Int) : (ints xs).length = xs.length := by simp [ints]
theorem ints_append (xs ys : List Int) : ints xs ++ ints ys = ints (xs ++ ys) := by simp [ints]
theorem ints_snoc (xs : List Int) (y : Int) : ints xs ++ [.v (.int .i64 y)] = ints (xs ++ [y]) := by simp [ints]
theorem ints_drop (xs : List Int) (n : Nat) : (ints xs).drop n = ints (xs.drop n) := by simp [ints]
theorem ints_take (xs : List Int) (n : Nat) : (ints xs).take n = ints (xs.take n) := by simp [ints]
theorem ints_all {xs : List Int} {n : Nat} (h : xs.length ≤ n) : (ints xs).take n = ints xs := List.take_of_length_le (by rw [ints_length]; exact h)
theorem ints_plain (xs : List Int) : plainL (ints xs) = true := by
  induction xs with
  | nil => rfl
  | cons x l ih => rw [ints_cons]; unfold plainL; rw [ih]; rfl
theorem ints_one (xs : List Int) : oneL (ints xs) = true := by simp [oneL, ints, AV.one, Value.oneCell']
theorem ints_get (xs : List Int) (i : Nat) : (ints xs)[i]? = (xs[i]?).map fun x => .v (.int .i64 x) := by simp [ints]
theorem ints_at {xs : List Int} {i : Int} (h0 : 0 ≤ i) (h1 : i < xs.length) : (ints xs)[i.toNat]? = some (.v (.int .i64 (gi xs i))) := by
  rw [ints_get, List.getElem?_eq_getElem (by omega), Option.map_some]
  unfold gi
  rw [List.getD_eq_getElem?_getD, List.getElem?_eq_getElem (by omega)]
  rfl
theorem ints_atn {xs : List Int} {i : Nat} (h1 : i < xs.length) : (ints xs)[i]? = some (.v (.int .i64 (gi xs i))) := by
  have := ints_at (xs := xs) (i := i) (by omega) (by omega)
  simpa using this
theorem ints_inj {xs ys : List Int} (h : ints xs = ints ys) : xs = ys := by
  unfold ints at h
  induction xs generalizing ys with
  | nil => cases ys with
    | nil => rfl
    | cons y l => simp at h
  | cons x l ih => cases ys with
    | nil => simp at h
    | cons y m =>
      simp only [List.map_cons, List.cons.injEq, AV.v.injEq, Value.int.injEq, true_and] at h
      rw [h.1, ih h.2]
theorem ints_renL (r : Nat → Nat) (xs : List Int) : renL r (ints xs) = ints xs := by
  induction xs with
  | nil => rfl
  | cons x l ih => rw [ints_cons]; unfold renL; rw [ih]; rfl
theorem ints_splice {xs : List Int} {i : Nat} (y : Int) (h : i < xs.length) : splice (ints xs) i [.v (.int .i64 y)] = ints (xs.set i y) := by
  unfold splice
  rw [ints_take, ints_drop, List.set_eq_take_append_cons_drop, if_pos h]
  simp [ints]

theorem zrep_ints (n : Nat) : zrep [.v (.int .i64 0)] n = ints (List.replicate n 0) := by
  induction n with
  | zero => rfl
  | succ n ih => unfold zrep at *; rw [List.replicate_succ, List.flatten_cons, ih, List.replicate_succ]; rfl
theorem zrep_one (zs : List AV) : zrep zs 1 = zs := by simp [zrep]
theorem zrep_zero (zs : List AV) : zrep zs 0 = [] := rfl
theorem splice_one (a b : AV) : splice [a] 0 [b] = [b] := rfl
theorem splice_all {cs xs : List AV} (h : xs.length = cs.length) : splice cs 0 xs = xs := by
  unfold splice
  rw [List.drop_of_length_le (by omega)]
  simp
theorem gi_append_left {xs ys : List Int} {i : Int} (h0 : 0 ≤ i) (h : i < xs.length) : gi (xs ++ ys) i = gi xs i := by
  unfold gi; rw [List.getD_eq_getElem?_getD, List.getD_eq_getElem?_getD, List.getElem?_append_left (by omega)]

/-! ### states -/
/-- The slots that are asked hold what is asked. -/
def slotsE (fr : List (Nat × AV)) : List (Nat × AV) → Prop
  | [] => True
  | p :: l => lk fr p.1 = some p.2 ∧ slotsE fr l

theorem slotsE_get {fr : List (Nat × AV)} : ∀ {l : List (Nat × AV)}, slotsE fr l → ∀ t av, lk l t = some av → lk fr t = some av
  | [], _, t, av, h => by simp [lk] at h
  | p :: l, ⟨h1, h2⟩, t, av, h => by
    obtain ⟨t', a'⟩ := p
    simp only [lk] at h
    by_cases e : t' = t
    · subst e
      simp only [BEq.rfl, cond_true, Option.some.injEq] at h
      subst h
      exact h1
    · rw [show (t' == t) = false by simpa using e, cond_false] at h
      exact slotsE_get h2 t av h

/-- Slots are forgotten. -/
theorem ent_eq {σ σ' : St} (hs : slotsE σ.fr σ'.fr) (hn : σ'.n = σ.n) (hh : σ'.hp = σ.hp) (hx : σ'.nx = σ.nx) : Ent σ σ' := by
  refine ⟨hn, ?_⟩
  intro g β O a w hc
  refine ⟨β, O, ⟨hc.defers, fun t av ht => hc.fr t av (slotsE_get hs t av ht), hn ▸ hc.sz, by rw [hh, hx]; exact hc.hc, hc.inv, hc.b0, hn ▸ hc.pp, hc.prot, hc.tr⟩⟩

/-- Rows hold what is asked. -/
theorem ent_eq_hp {σ σ' : St} (hs : slotsE σ.fr σ'.fr) (hn : σ'.n = σ.n) (hh : ∀ k c, σ'.hp k = some c → σ.hp k = some c) (hx : σ.nx ≤ σ'.nx) (hf : ∀ k, σ'.nx ≤ k → σ'.hp k = none) : Ent σ σ' := by
  refine ⟨hn, ?_⟩
  intro g β O a w hc
  have ne : ∀ k, σ'.hp k ≠ none → σ.hp k ≠ none := fun k h => by
    cases e : σ'.hp k with
    | none => exact absurd e h
    | some c => rw [hh k c e]; simp
  exact ⟨β, O, ⟨hc.defers, fun t av ht => hc.fr t av (slotsE_get hs t av ht), hn ▸ hc.sz, ⟨fun k c hk => hc.hc.row k c (hh k c hk), fun k k' b st st' h1 h2 => hc.hc.inj k k' b st st' (ne k h1) (ne k' h2), hc.hc.own, hc.hc.base, hf, fun k hk => hc.hc.fresh k (Nat.le_trans hx hk)⟩, hc.inv, hc.b0, hn ▸ hc.pp, hc.prot, hc.tr⟩⟩
end Go.Ab

/- The abstract machine, part 9: operations that write: stores, new local rows, append; calls that are walked into. -/
import Derived.Test.YtbobgnkohnbonaaAbOrd
set_option linter.unusedVariables false
set_option linter.unusedSimpArgs false
namespace Go.Ab
open Go.RowKit

structure St where
  fr : List (Nat × AV)
  hp : Hp
  nx : Nat
  n : Nat × Nat × Nat

def St.ge (σ : St) : Operand → AV := geF (lk σ.fr)
def St.put (σ : St) (d : Option Nat) (r : AV) : St :=
  match d with
  | none => σ
  | some d => { σ with fr := (d, r) :: σ.fr }

abbrev Cn (g : Gh) (β : Bt) (O : Nat → Prop) (σ : St) (a : Act) (w : World) : Prop := Cf g β O (lk σ.fr) σ.hp σ.nx σ.n a w

def hset (H : Hp) (k : Nat) (c : Option (List AV)) : Hp := fun j => bif k == j then c else H j

theorem lk_put (σ : St) (d : Option Nat) (r : AV) : lk (σ.put d r).fr = updF (lk σ.fr) d r := by
  cases d <;> rfl

theorem Cn.put {g : Gh} {β : Bt} {O : Nat → Prop} {σ : St} {a : Act} {w : World} {d : Option Nat} {r : AV} {u : Value} (hd : dOk σ.n d) (hr : R β O w r u) (h : Cn g β O σ a w) : Cn g β O (σ.put d r) (a.put d u) w := by
  have := Cf.put hd hr h
  unfold Cn
  rw [lk_put]
  cases d <;> exact this

/-! ### cells that may be stored -/
def AV.one : AV → Bool
  | .v x => x.oneCell'
  | .ag _ => false
  | .tu _ => false
  | .any => false
  | _ => true
def oneL (cs : List AV) : Bool := cs.all AV.one

theorem R.one {β : Bt} {O : Nat → Prop} {w : World} {a : AV} {u : Value} (h : R β O w a u) (h1 : a.one = true) : u.oneCell' = true := by
  cases a with
  | v x => rw [h.v_inv]; exact h1
  | sl sz n cs =>
    obtain ⟨_, ⟨_, _, rfl⟩ | ⟨b, off, cap, _, _, _, rfl, _⟩⟩ := h.sl_inv <;> rfl
  | pt cs i => obtain ⟨b, off, _, _, rfl, _⟩ := h.pt_inv; rfl
  | fn f cs ds => obtain ⟨us, vs, rfl, _⟩ := h.fn_inv; rfl
  | ic t x => obtain ⟨y, rfl, _⟩ := h.ic_inv; rfl
  | lp k off => obtain ⟨b, st, _, rfl⟩ := h.lp_inv; rfl
  | ls k off sz n => rcases h.ls_inv with ⟨_, _, a, rfl, _⟩ | ⟨b, st, cap, _, _, rfl, _⟩ <;> rfl
  | ag cs => simp [AV.one] at h1
  | tu cs => simp [AV.one] at h1
  | any => simp [AV.one] at h1

theorem rs_one {β : Bt} {O : Nat → Prop} {w : World} {cs : List AV} {us : Array Value} (h : Rs β O w cs us) (h1 : oneL cs = true) : ∀ u ∈ us.toList, u.oneCell' = true := by
  intro u hu
  obtain ⟨i, hi⟩ := List.mem_iff_getElem?.1 hu
  have hlt : i < cs.length := by
    have := (List.getElem?_eq_some_iff.1 hi).1
    rw [← h.1]; simpa using this
  obtain ⟨u', g1, g2⟩ := h.2 i cs[i] (List.getElem?_eq_getElem hlt)
  rw [Array.getElem?_toList] at hi
  rw [g1] at hi
  cases hi
  exact g2.one (List.all_eq_true.1 h1 _ (List.getElem_mem hlt))

/-! ### a step that changes a row's memory -/
theorem Cf.step {g : Gh} {β β' : Bt} {O O' : Nat → Prop} {f : Nat → Option AV} {H H' : Hp} {nx nx' : Nat} {n : Nat × Nat × Nat} {a : Act} {w w' : World} (h : Cf g β O f H nx n a w) (ht : Tr O w O' w') (hβ : ∀ k p, β k = some p → β' k = some p)
    (hc : HC g.B0 g.O0 β' O' H' nx' w') (hb : Pr g.B0 O w O' w') : Cf g β' O' f H' nx' n a w' :=
  ⟨h.defers.tr ht, fun t av hf => let ⟨u, h1, h2⟩ := h.fr t av hf; ⟨u, h1, h2.mono ht hβ⟩, h.sz, hc, g.stab _ _ _ _ h.inv ht hb, h.b0.gr ht.size, h.pp, fun k q hq => hβ _ _ (h.prot k q hq), h.tr.trans ht⟩

/-- Another content in a block of its own. -/
theorem tr_setRow {O : Nat → Prop} {w : World} {b : Nat} {old new : Array Value} {e : TypeId} (hO : O b) (hb : w.heap[b]? = some (Obj.cells old e (0, 0))) (hs : new.size = old.size) : Tr O w O (w.setRow b new) := by
  refine ⟨by simp, fun k hk ho => ⟨?_, ho⟩, fun k arr e' fz hk => ?_⟩
  · exact setRow_other _ _ _ _ (fun he => ho (he ▸ hO))
  · by_cases he : k = b
    · subst he
      rw [hb] at hk
      cases hk
      exact ⟨new, (0, 0), setRow_heap _ _ _ _ _ _ hb, hs⟩
    · exact ⟨arr, fz, by rw [setRow_other _ _ _ _ he]; exact hk, rfl⟩

theorem RowAt.mono {β β' : Bt} {O O' : Nat → Prop} {w w' : World} {b st : Nat} {c : List AV} (h : RowAt β O w b st c) (ht : Tr O w O' w') (hβ : ∀ k p, β k = some p → β' k = some p) (hb : w'.heap[b]? = w.heap[b]?) : RowAt β' O' w' b st c := by
  obtain ⟨arr, e, h1, h2, h3⟩ := h
  exact ⟨arr, e, by rw [hb]; exact h1, h2, fun j x hj => let ⟨u, a, r⟩ := h3 j x hj; ⟨u, a, r.mono ht hβ⟩⟩

/-- The row k is written. -/
theorem hc_write {B0 : Nat → Prop} {O0 : Nat → Prop} {β : Bt} {O : Nat → Prop} {H : Hp} {nx : Nat} {w : World} (h : HC B0 O0 β O H nx w) {k : Nat} {c c' : List AV} (hk : H k = some c) {b st : Nat} (hβ : β k = some (some (b, st)))
    {old new : Array Value} {e : TypeId} (hb : w.heap[b]? = some (Obj.cells old e (0, 0))) (hs : new.size = old.size) (hst : st + c'.length ≤ new.size)
    (hnew : ∀ (j : Nat) (x : AV), c'[j]? = some x → ∃ u, new[st + j]? = some u ∧ R β O w x u) : HC B0 O0 β O (hset H k (some c')) nx (w.setRow b new) ∧ Tr O w O (w.setRow b new) ∧ Pr B0 O w O (w.setRow b new) := by
  obtain ⟨hO, hB⟩ : O b ∧ ¬ B0 b := by
    rcases h.row k c hk with ⟨h1, _⟩ | ⟨b', st', h1, h2, h3, _⟩
    · rw [hβ] at h1; cases h1
    · rw [hβ] at h1; cases h1; exact ⟨h2, h3⟩
  have ht := tr_setRow hO hb hs
  refine ⟨⟨fun k' c'' hk' => ?_, fun k1 k2 b' s1 s2 h1 h2 h3 h4 => ?_, h.own.gr (by simp), h.base, fun k' hk' => ?_, h.fresh⟩, ht, ⟨rfl, rfl, rfl, fun k hk => setRow_other _ _ _ _ (fun e => hB (e ▸ hk)), fun _ _ h => h, fun h => h.gr (by simp)⟩⟩
  · unfold hset at hk'
    by_cases he : k = k'
    · subst he
      simp only [BEq.rfl, cond_true, Option.some.injEq] at hk'
      subst hk'
      refine .inr ⟨b, st, hβ, hO, hB, new, e, setRow_heap _ _ _ _ _ _ hb, hst, fun j x hj => ?_⟩
      obtain ⟨u, h1, h2⟩ := hnew j x hj
      exact ⟨u, h1, h2.mono ht (fun _ _ h => h)⟩
    · have : (k == k') = false := by simpa using he
      rw [this, cond_false] at hk'
      rcases h.row k' c'' hk' with h1 | ⟨b', st', h1, h2, h3, h4⟩
      · exact .inl h1
      · refine .inr ⟨b', st', h1, h2, h3, h4.mono ht (fun _ _ h => h) (setRow_other _ _ _ _ fun e => ?_)⟩
        subst e
        exact he (h.inj k k' _ _ _ (by rw [hk]; simp) (by rw [hk']; simp) hβ h1)
  · have dom : ∀ k', hset H k (some c') k' ≠ none → H k' ≠ none := fun k' hk' => by
      unfold hset at hk'
      by_cases he : k = k'
      · subst he; rw [hk]; simp
      · have : (k == k') = false := by simpa using he
        rwa [this, cond_false] at hk'
    exact h.inj k1 k2 b' s1 s2 (dom _ h1) (dom _ h2) h3 h4
  · unfold hset
    have : k ≠ k' := fun e => by rw [← e] at hk'; rw [h.free k hk'] at hk; cases hk
    rw [show (k == k') = false by simpa using this, cond_false]
    exact h.free k' hk'

/-- A new row in a new block. -/
theorem hc_new {B0 : Nat → Prop} {O0 : Nat → Prop} {β : Bt} {O : Nat → Prop} {H : Hp} {nx : Nat} {w : World} (h : HC B0 O0 β O H nx w) (hB : Bk B0 w) {c : List AV} {arr : Array Value} (e : TypeId) (hl : c.length ≤ arr.size)
    (hc : ∀ (j : Nat) (x : AV), c[j]? = some x → ∃ u, arr[j]? = some u ∧ R β O w x u) :
    HC B0 O0 (fun k => if k = nx then some (some (w.heap.size, 0)) else β k) (fun b => O b ∨ b = w.heap.size) (hset H nx (some c)) (nx + 1) (w.alloc (.cells arr e)) ∧
    Tr O w (fun b => O b ∨ b = w.heap.size) (w.alloc (.cells arr e)) ∧ Pr B0 O w (fun b => O b ∨ b = w.heap.size) (w.alloc (.cells arr e)) ∧ (∀ k p, β k = some p → (fun k => if k = nx then some (some (w.heap.size, 0)) else β k) k = some p) ∧
    (w.alloc (.cells arr e)).heap[w.heap.size]? = some (Obj.cells arr e (0, 0)) := by
  have hg := gr_alloc w (.cells arr e)
  have hget : (w.alloc (.cells arr e)).heap[w.heap.size]? = some (Obj.cells arr e (0, 0)) := by
    show (w.heap.push _)[w.heap.size]? = _
    exact Array.getElem?_push_size
  have hβ : ∀ k p, β k = some p → (if k = nx then some (some (w.heap.size, 0)) else β k) = some p := by
    intro k p hk
    have : k ≠ nx := fun e => by rw [e, h.fresh nx (Nat.le_refl _)] at hk; cases hk
    rw [if_neg this, hk]
  have ht : Tr O w (fun b => O b ∨ b = w.heap.size) (w.alloc (.cells arr e)) := by
    refine ⟨hg.size, fun b hb ho => ⟨hg.block b hb, fun h' => h'.elim ho (fun e => by omega)⟩, fun b arr' e' fz hb => ?_⟩
    have hlt : b < w.heap.size := by
      rcases Nat.lt_or_ge b w.heap.size with h' | h'
      · exact h'
      · simp [Array.getElem?_eq_none h'] at hb
    exact ⟨arr', fz, by rw [hg.block b hlt]; exact hb, rfl⟩
  have hbk : Bk O w → Bk (fun b => O b ∨ b = w.heap.size) (w.alloc (.cells arr e)) := fun h b hb => by
    rcases hb with hb | rfl
    · exact Nat.lt_of_lt_of_le (h b hb) hg.size
    · simp
  refine ⟨⟨fun k c' hk => ?_, fun k1 k2 b s1 s2 h1 h2 h3 h4 => ?_, hbk h.own, fun b hb => ⟨.inl (h.base b hb).1, (h.base b hb).2⟩, fun k hk => ?_, fun k hk => ?_⟩, ht, ⟨hg.os, hg.tape, hg.output, fun b k => hg.block b (hB b k), fun _ _ h => .inl h, hbk⟩, hβ, hget⟩
  · unfold hset at hk
    by_cases he : nx = k
    · subst he
      simp only [BEq.rfl, cond_true, Option.some.injEq] at hk
      subst hk
      exact .inr ⟨w.heap.size, 0, by simp, .inr rfl, fun h => Nat.lt_irrefl _ (hB _ h), arr, e, hget, by omega, fun j x hj => by
        obtain ⟨u, h1, h2⟩ := hc j x hj
        exact ⟨u, by rw [Nat.zero_add]; exact h1, h2.mono ht hβ⟩⟩
    · rw [show (nx == k) = false by simpa using he, cond_false] at hk
      rcases h.row k c' hk with h1 | ⟨b, st, h1, h2, h3, h4⟩
      · exact .inl ⟨by show (if _ = _ then _ else _) = _; rw [if_neg (Ne.symm he)]; exact h1.1, h1.2⟩
      · exact .inr ⟨b, st, by show (if _ = _ then _ else _) = _; rw [if_neg (Ne.symm he)]; exact h1, .inl h2, h3, h4.mono ht hβ (hg.block b h4.lt)⟩
  · have old : ∀ k, k ≠ nx → hset H nx (some c) k ≠ none → H k ≠ none := fun k hk h' => by
      unfold hset at h'
      rwa [show (nx == k) = false by simpa using Ne.symm hk, cond_false] at h'
    have blk : ∀ k b st, H k ≠ none → β k = some (some (b, st)) → b < w.heap.size := by
      intro k b st hk hb
      cases hq : H k with
      | none => exact absurd hq hk
      | some c' =>
        rcases h.row k c' hq with ⟨h1, _⟩ | ⟨b', st', h1, _, _, h4⟩
        · rw [hb] at h1; cases h1
        · rw [hb] at h1; cases h1; exact h4.lt
    by_cases e1 : k1 = nx <;> by_cases e2 : k2 = nx
    · rw [e1, e2]
    · subst e1
      simp at h3
      simp only [if_neg e2] at h4
      have := blk k2 b s2 (old k2 e2 h2) h4
      omega
    · subst e2
      simp at h4
      simp only [if_neg e1] at h3
      have := blk k1 b s1 (old k1 e1 h1) h3
      omega
    · simp only [if_neg e1] at h3
      simp only [if_neg e2] at h4
      exact h.inj k1 k2 b s1 s2 (old k1 e1 h1) (old k2 e2 h2) h3 h4
  · unfold hset
    rw [show (nx == k) = false by simp; omega, cond_false]
    exact h.free k (by omega)
  · show (if _ = _ then _ else _) = _
    rw [if_neg (by omega)]
    exact h.fresh k (by omega)

/-- A new row without a block. -/
theorem hc_nil {B0 : Nat → Prop} {O0 : Nat → Prop} {β : Bt} {O : Nat → Prop} {H : Hp} {nx : Nat} {w : World} (h : HC B0 O0 β O H nx w) :
    HC B0 O0 (fun k => if k = nx then some none else β k) O (hset H nx (some [])) (nx + 1) w ∧ (∀ k p, β k = some p → (fun k => if k = nx then some none else β k) k = some p) := by
  have hβ : ∀ k p, β k = some p → (if k = nx then some none else β k) = some p := by
    intro k p hk
    have : k ≠ nx := fun e => by rw [e, h.fresh nx (Nat.le_refl _)] at hk; cases hk
    rw [if_neg this, hk]
  refine ⟨⟨fun k c' hk => ?_, fun k1 k2 b s1 s2 h1 h2 h3 h4 => ?_, h.own, h.base, fun k hk => ?_, fun k hk => ?_⟩, hβ⟩
  · unfold hset at hk
    by_cases he : nx = k
    · subst he
      simp only [BEq.rfl, cond_true, Option.some.injEq] at hk
      exact .inl ⟨by simp, hk.symm⟩
    · rw [show (nx == k) = false by simpa using he, cond_false] at hk
      rcases h.row k c' hk with h1 | ⟨b, st, h1, h2, h3, h4⟩
      · exact .inl ⟨by show (if _ = _ then _ else _) = _; rw [if_neg (Ne.symm he)]; exact h1.1, h1.2⟩
      · exact .inr ⟨b, st, by show (if _ = _ then _ else _) = _; rw [if_neg (Ne.symm he)]; exact h1, h2, h3, h4.mono (Tr.refl O w) hβ rfl⟩
  · have old : ∀ k, k ≠ nx → hset H nx (some []) k ≠ none → H k ≠ none := fun k hk h' => by
      unfold hset at h'
      rwa [show (nx == k) = false by simpa using Ne.symm hk, cond_false] at h'
    by_cases e1 : k1 = nx
    · subst e1; simp at h3
    · by_cases e2 : k2 = nx
      · subst e2; simp at h4
      · simp only [if_neg e1] at h3
        simp only [if_neg e2] at h4
        exact h.inj k1 k2 b s1 s2 (old k1 e1 h1) (old k2 e2 h2) h3 h4
  · unfold hset
    rw [show (nx == k) = false by simp; omega, cond_false]
    exact h.free k (by omega)
  · show (if _ = _ then _ else _) = _
    rw [if_neg (by omega)]
    exact h.fresh k (by omega)

/-- A row is let go. -/
theorem hc_drop {B0 : Nat → Prop} {O0 : Nat → Prop} {β : Bt} {O : Nat → Prop} {H : Hp} {nx : Nat} {w : World} (h : HC B0 O0 β O H nx w) (k : Nat) : HC B0 O0 β O (hset H k none) nx w := by
  have dom : ∀ k', hset H k none k' ≠ none → H k' ≠ none := fun k' hk' => by
    unfold hset at hk'
    by_cases he : k = k'
    · subst he; simp at hk'
    · rwa [show (k == k') = false by simpa using he, cond_false] at hk'
  have sub : ∀ k' c, hset H k none k' = some c → H k' = some c := fun k' c hk' => by
    unfold hset at hk'
    by_cases he : k = k'
    · subst he; simp at hk'
    · rwa [show (k == k') = false by simpa using he, cond_false] at hk'
  refine ⟨fun k' c hk' => h.row k' c (sub _ _ hk'), fun k1 k2 b s1 s2 h1 h2 h3 h4 => h.inj k1 k2 b s1 s2 (dom _ h1) (dom _ h2) h3 h4, h.own, h.base, fun k' hk' => ?_, h.fresh⟩
  cases hq : hset H k none k' with
  | none => rfl
  | some c => have := sub _ _ hq; rw [h.free k' hk'] at this; cases this

/-- The row k goes on under a new number, written, from another place of its block on. -/
theorem hc_move {B0 : Nat → Prop} {O0 : Nat → Prop} {β : Bt} {O : Nat → Prop} {H : Hp} {nx : Nat} {w : World} (h : HC B0 O0 β O H nx w) {k : Nat} {c c' : List AV} (hk : H k = some c) {b st st' : Nat} (hβk : β k = some (some (b, st)))
    {old new : Array Value} {e : TypeId} (hb : w.heap[b]? = some (Obj.cells old e (0, 0))) (hs : new.size = old.size) (hst : st' + c'.length ≤ new.size)
    (hnew : ∀ (j : Nat) (x : AV), c'[j]? = some x → ∃ u, new[st' + j]? = some u ∧ R β O w x u) :
    HC B0 O0 (fun j => if j = nx then some (some (b, st')) else β j) O (hset (hset H k none) nx (some c')) (nx + 1) (w.setRow b new) ∧ Tr O w O (w.setRow b new) ∧ Pr B0 O w O (w.setRow b new) ∧
    (∀ j p, β j = some p → (fun j => if j = nx then some (some (b, st')) else β j) j = some p) := by
  obtain ⟨hO, hB⟩ : O b ∧ ¬ B0 b := by
    rcases h.row k c hk with ⟨h1, _⟩ | ⟨b', st', h1, h2, h3, _⟩
    · rw [hβk] at h1; cases h1
    · rw [hβk] at h1; cases h1; exact ⟨h2, h3⟩
  have ht := tr_setRow hO hb hs
  have hβ : ∀ j p, β j = some p → (if j = nx then some (some (b, st')) else β j) = some p := by
    intro j p hj
    have : j ≠ nx := fun e => by rw [e, h.fresh nx (Nat.le_refl _)] at hj; cases hj
    rw [if_neg this, hj]
  have hkn : k ≠ nx := fun e => by rw [e, h.fresh nx (Nat.le_refl _)] at hβk; cases hβk
  have look : ∀ j, j ≠ nx → hset (hset H k none) nx (some c') j = if j = k then none else H j := by
    intro j hj
    unfold hset
    rw [show (nx == j) = false by simpa using Ne.symm hj, cond_false]
    by_cases he : j = k
    · rw [if_pos he, he]; simp
    · rw [if_neg he, show (k == j) = false by simpa using Ne.symm he, cond_false]
  have dom : ∀ j, j ≠ nx → hset (hset H k none) nx (some c') j ≠ none → j ≠ k ∧ H j ≠ none := by
    intro j hj h'
    rw [look j hj] at h'
    by_cases he : j = k
    · rw [if_pos he] at h'; exact absurd rfl h'
    · rw [if_neg he] at h'; exact ⟨he, h'⟩
  refine ⟨⟨fun j c'' hj => ?_, fun k1 k2 b' s1 s2 h1 h2 h3 h4 => ?_, h.own.gr (by simp), h.base, fun j hj => ?_, fun j hj => ?_⟩, ht, ⟨rfl, rfl, rfl, fun k hk => setRow_other _ _ _ _ (fun e => hB (e ▸ hk)), fun _ _ h => h, fun h => h.gr (by simp)⟩, hβ⟩
  · by_cases he : j = nx
    · subst he
      simp only [hset, BEq.rfl, cond_true, Option.some.injEq] at hj
      subst hj
      refine .inr ⟨b, st', by simp, hO, hB, new, e, setRow_heap _ _ _ _ _ _ hb, hst, fun i x hi => ?_⟩
      obtain ⟨u, g1, g2⟩ := hnew i x hi
      exact ⟨u, g1, g2.mono ht hβ⟩
    · have hne := dom j he (by rw [hj]; simp)
      rw [look j he, if_neg hne.1] at hj
      rcases h.row j c'' hj with g1 | ⟨b', s', g1, g2, g3, g4⟩
      · exact .inl ⟨by show (if _ = _ then _ else _) = _; rw [if_neg he]; exact g1.1, g1.2⟩
      · refine .inr ⟨b', s', by show (if _ = _ then _ else _) = _; rw [if_neg he]; exact g1, g2, g3, g4.mono ht hβ (setRow_other _ _ _ _ fun e => ?_)⟩
        subst e
        exact hne.1 (h.inj j k _ _ _ (by rw [hj]; simp) (by rw [hk]; simp) g1 hβk)
  · by_cases e1 : k1 = nx <;> by_cases e2 : k2 = nx
    · rw [e1, e2]
    · subst e1
      simp only [if_true, Option.some.injEq, Prod.mk.injEq] at h3
      simp only [if_neg e2] at h4
      have := dom k2 e2 h2
      exact absurd (h.inj k2 k b' s2 st this.2 (by rw [hk]; simp) h4 (by rw [hβk, h3.1])) this.1
    · subst e2
      simp only [if_true, Option.some.injEq, Prod.mk.injEq] at h4
      simp only [if_neg e1] at h3
      have := dom k1 e1 h1
      exact absurd (h.inj k1 k b' s1 st this.2 (by rw [hk]; simp) h3 (by rw [hβk, h4.1])) this.1
    · simp only [if_neg e1] at h3
      simp only [if_neg e2] at h4
      exact h.inj k1 k2 b' s1 s2 (dom k1 e1 h1).2 (dom k2 e2 h2).2 h3 h4
  · rw [look j (by omega)]
    split
    · rfl
    · exact h.free j (by omega)
  · show (if _ = _ then _ else _) = _
    rw [if_neg (by omega)]
    exact h.fresh j (by omega)

end Go.Ab

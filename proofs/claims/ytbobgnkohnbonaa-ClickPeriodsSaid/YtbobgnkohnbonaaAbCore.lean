/- The abstract machine, part 1: abstract values, their relation to the model's values, and how it is kept when memory grows. -/
import Derived.WalkKit
import Derived.OrdersIn
import Derived.TacticsIn
import Derived.RangeFuncFrom
set_option linter.unusedVariables false
set_option linter.unusedSimpArgs false
namespace Go.Ab
open Go.RowKit

/-- Abstract values: data without addresses. 'sl': a slice that reads as cells (n elements of sz cells each) in memory that nobody writes; 'pt': a pointer to cell i of such a row; 'lp', 'ls': a pointer into, a slice over the local row k, which may be written. -/
inductive AV where
  | v (x : Value)
  | sl (sz n : Nat) (cs : List AV)
  | pt (cs : List AV) (i : Nat)
  | ag (cs : List AV)
  | tu (vs : List AV)
  | fn (f : Fn) (first captured : List AV)
  | ic (t : TypeId) (x : AV)
  | lp (k off : Nat)
  | ls (k off sz n : Nat)
  | any
  deriving Inhabited

/-- Where the local rows lie: 'some none': a row that has no block yet (nil). -/
abbrev Bt := Nat → Option (Option (Nat × Nat))

/-- Plain readings: no local rows. 'O': the blocks that are not touched by it. -/
inductive Rp (O : Nat → Prop) (w : World) : AV → Value → Prop where
  | v (x : Value) : Rp O w (.v x) x
  | nil (sz : Nat) : Rp O w (.sl sz 0 []) (.slice none 0 0)
  | sl (sz n : Nat) (cs : List AV) (b off cap : Nat) (f : Nat → Value) (hO : ¬ O b) (hb : b < w.heap.size) (hn : n ≤ cap) (hl : cs.length = n * sz)
      (hc : ∀ (i : Nat) (c : AV), cs[i]? = some c → w.cell? ⟨b, off + i, none⟩ = some (f i)) (hr : ∀ (i : Nat) (c : AV), cs[i]? = some c → Rp O w c (f i)) :
      Rp O w (.sl sz n cs) (.slice (some ⟨b, off, none⟩) n cap)
  | pt (cs : List AV) (i b off : Nat) (f : Nat → Value) (hO : ¬ O b) (hb : b < w.heap.size)
      (hc : ∀ (i : Nat) (c : AV), cs[i]? = some c → w.cell? ⟨b, off + i, none⟩ = some (f i)) (hr : ∀ (i : Nat) (c : AV), cs[i]? = some c → Rp O w c (f i)) :
      Rp O w (.pt cs i) (.pointer (some ⟨b, off + i, none⟩))
  | ag (cs : List AV) (us : Array Value) (f : Nat → Value) (hs : us.size = cs.length) (hu : ∀ (i : Nat) (c : AV), cs[i]? = some c → us[i]? = some (f i)) (hr : ∀ (i : Nat) (c : AV), cs[i]? = some c → Rp O w c (f i)) :
      Rp O w (.ag cs) (.agg us)
  | tu (cs : List AV) (us : Array Value) (f : Nat → Value) (hs : us.size = cs.length) (hu : ∀ (i : Nat) (c : AV), cs[i]? = some c → us[i]? = some (f i)) (hr : ∀ (i : Nat) (c : AV), cs[i]? = some c → Rp O w c (f i)) :
      Rp O w (.tu cs) (.tuple us)
  | fn (fn : Fn) (cs ds : List AV) (us vs : Array Value) (f g : Nat → Value) (hs : us.size = cs.length) (ht : vs.size = ds.length)
      (hu : ∀ (i : Nat) (c : AV), cs[i]? = some c → us[i]? = some (f i)) (hr : ∀ (i : Nat) (c : AV), cs[i]? = some c → Rp O w c (f i))
      (hv : ∀ (i : Nat) (c : AV), ds[i]? = some c → vs[i]? = some (g i)) (hq : ∀ (i : Nat) (c : AV), ds[i]? = some c → Rp O w c (g i)) :
      Rp O w (.fn fn cs ds) (.func fn us vs)
  | ic (t : TypeId) (x : AV) (u : Value) (h : Rp O w x u) : Rp O w (.ic t x) (.iface t u)

/-- Readings with local rows: 'β' says where row k lies. -/
inductive R (β : Bt) (O : Nat → Prop) (w : World) : AV → Value → Prop where
  | pl (a : AV) (u : Value) (h : Rp O w a u) : R β O w a u
  | any (u : Value) : R β O w .any u
  | ag (cs : List AV) (us : Array Value) (f : Nat → Value) (hs : us.size = cs.length) (hu : ∀ (i : Nat) (c : AV), cs[i]? = some c → us[i]? = some (f i)) (hr : ∀ (i : Nat) (c : AV), cs[i]? = some c → R β O w c (f i)) :
      R β O w (.ag cs) (.agg us)
  | tu (cs : List AV) (us : Array Value) (f : Nat → Value) (hs : us.size = cs.length) (hu : ∀ (i : Nat) (c : AV), cs[i]? = some c → us[i]? = some (f i)) (hr : ∀ (i : Nat) (c : AV), cs[i]? = some c → R β O w c (f i)) :
      R β O w (.tu cs) (.tuple us)
  | fn (fn : Fn) (cs ds : List AV) (us vs : Array Value) (f g : Nat → Value) (hs : us.size = cs.length) (ht : vs.size = ds.length)
      (hu : ∀ (i : Nat) (c : AV), cs[i]? = some c → us[i]? = some (f i)) (hr : ∀ (i : Nat) (c : AV), cs[i]? = some c → R β O w c (f i))
      (hv : ∀ (i : Nat) (c : AV), ds[i]? = some c → vs[i]? = some (g i)) (hq : ∀ (i : Nat) (c : AV), ds[i]? = some c → R β O w c (g i)) :
      R β O w (.fn fn cs ds) (.func fn us vs)
  | ic (t : TypeId) (x : AV) (u : Value) (h : R β O w x u) : R β O w (.ic t x) (.iface t u)
  | lp (k off b st : Nat) (hk : β k = some (some (b, st))) : R β O w (.lp k off) (.pointer (some ⟨b, st + off, none⟩))
  | lsn (k off sz : Nat) (a : Option Addr) (hk : β k = some none) (ha : ∀ ad, a = some ad → ∃ b of, ad = ⟨b, of, none⟩ ∧ ¬ O b ∧ b < w.heap.size) : R β O w (.ls k off sz 0) (.slice a 0 0)
  | ls (k off sz n b st cap : Nat) (hk : β k = some (some (b, st))) (hn : n ≤ cap)
      (hsz : ∃ (arr : Array Value) (e : TypeId) (fz : Nat × Nat), w.heap[b]? = some (Obj.cells arr e fz) ∧ st + off + cap * sz ≤ arr.size) :
      R β O w (.ls k off sz n) (.slice (some ⟨b, st + off, none⟩) n cap)

/-- Old blocks stay as they are. -/
abbrev Gr (w w' : World) : Prop := Below w.heap.size w w'

/-- What the readings need of a step: blocks outside O stay, block sizes stay. -/
structure Tr (O : Nat → Prop) (w : World) (O' : Nat → Prop) (w' : World) : Prop where
  size : w.heap.size ≤ w'.heap.size
  keep : ∀ b, b < w.heap.size → ¬ O b → w'.heap[b]? = w.heap[b]? ∧ ¬ O' b
  row : ∀ (b : Nat) (arr : Array Value) (e : TypeId) (fz : Nat × Nat), w.heap[b]? = some (Obj.cells arr e fz) → ∃ (arr' : Array Value) (fz' : Nat × Nat), w'.heap[b]? = some (Obj.cells arr' e fz') ∧ arr'.size = arr.size

theorem Tr.refl (O : Nat → Prop) (w : World) : Tr O w O w := ⟨Nat.le_refl _, fun _ _ h => ⟨rfl, h⟩, fun _ arr _ fz h => ⟨arr, fz, h, rfl⟩⟩

theorem Tr.trans {O O' O'' : Nat → Prop} {w w' w'' : World} (h : Tr O w O' w') (k : Tr O' w' O'' w'') : Tr O w O'' w'' := by
  refine ⟨Nat.le_trans h.size k.size, fun b hb ho => ?_, fun b arr e fz hb => ?_⟩
  · obtain ⟨h1, h2⟩ := h.keep b hb ho
    obtain ⟨k1, k2⟩ := k.keep b (Nat.lt_of_lt_of_le hb h.size) h2
    exact ⟨k1.trans h1, k2⟩
  · obtain ⟨a1, f1, h1, s1⟩ := h.row b arr e fz hb
    obtain ⟨a2, f2, h2, s2⟩ := k.row b a1 e f1 h1
    exact ⟨a2, f2, h2, s2.trans s1⟩

theorem Tr.of_gr {O : Nat → Prop} {w w' : World} (h : Gr w w') : Tr O w O w' := by
  refine ⟨h.size, fun b hb ho => ⟨h.block b hb, ho⟩, fun b arr e fz hb => ?_⟩
  have hlt : b < w.heap.size := by
    rcases Nat.lt_or_ge b w.heap.size with h' | h'
    · exact h'
    · simp [Array.getElem?_eq_none h'] at hb
  exact ⟨arr, fz, by rw [h.block b hlt]; exact hb, rfl⟩

theorem Tr.cell {O O' : Nat → Prop} {w w' : World} (h : Tr O w O' w') {b off : Nat} (hb : b < w.heap.size) (ho : ¬ O b) : w'.cell? ⟨b, off, none⟩ = w.cell? ⟨b, off, none⟩ :=
  World.cell?_of_block (w := w) (a := ⟨b, off, none⟩) (h.keep b hb ho).1

theorem Rp.mono {O O' : Nat → Prop} {w w' : World} (t : Tr O w O' w') {a : AV} {u : Value} (h : Rp O w a u) : Rp O' w' a u := by
  induction h with
  | v x => exact .v x
  | nil sz => exact .nil sz
  | sl sz n cs b off cap f hO hb hn hl hc hr ih => exact .sl sz n cs b off cap f (t.keep b hb hO).2 (Nat.lt_of_lt_of_le hb t.size) hn hl (fun i c h => by rw [t.cell hb hO]; exact hc i c h) ih
  | pt cs i b off f hO hb hc hr ih => exact .pt cs i b off f (t.keep b hb hO).2 (Nat.lt_of_lt_of_le hb t.size) (fun i c h => by rw [t.cell hb hO]; exact hc i c h) ih
  | ag cs us f hs hu hr ih => exact .ag cs us f hs hu ih
  | tu cs us f hs hu hr ih => exact .tu cs us f hs hu ih
  | fn fn cs ds us vs f g hs ht hu hr hv hq ih1 ih2 => exact .fn fn cs ds us vs f g hs ht hu ih1 hv ih2
  | ic t x u h ih => exact .ic t x u ih

theorem R.mono {β β' : Bt} {O O' : Nat → Prop} {w w' : World} (t : Tr O w O' w') (hβ : ∀ k p, β k = some p → β' k = some p) {a : AV} {u : Value} (h : R β O w a u) : R β' O' w' a u := by
  induction h with
  | pl a u h => exact .pl a u (h.mono t)
  | any u => exact .any u
  | ag cs us f hs hu hr ih => exact .ag cs us f hs hu ih
  | tu cs us f hs hu hr ih => exact .tu cs us f hs hu ih
  | fn fn cs ds us vs f g hs ht hu hr hv hq ih1 ih2 => exact .fn fn cs ds us vs f g hs ht hu ih1 hv ih2
  | ic t x u h ih => exact .ic t x u ih
  | lp k off b st hk => exact .lp k off b st (hβ _ _ hk)
  | lsn k off sz a hk ha => exact .lsn k off sz a (hβ _ _ hk) (fun ad h => let ⟨b, of, e, ho, hb⟩ := ha ad h; ⟨b, of, e, (t.keep b hb ho).2, Nat.lt_of_lt_of_le hb t.size⟩)
  | ls k off sz n b st cap hk hn' hsz =>
    obtain ⟨arr, e, fz, h1, h2⟩ := hsz
    obtain ⟨arr', fz', h3, h4⟩ := t.row b arr e fz h1
    exact .ls k off sz n b st cap (hβ _ _ hk) hn' ⟨arr', e, fz', h3, by rw [h4]; exact h2⟩

theorem R.gr {β : Bt} {O : Nat → Prop} {w w' : World} (g : Gr w w') {a : AV} {u : Value} (h : R β O w a u) : R β O w' a u :=
  h.mono (Tr.of_gr g) (fun _ _ h => h)

/-! ### what a reading says of the value -/
theorem Rp.v_inv {O : Nat → Prop} {w : World} {x u : Value} (h : Rp O w (.v x) u) : u = x := by cases h; rfl
theorem R.v_inv {β : Bt} {O : Nat → Prop} {w : World} {x u : Value} (h : R β O w (.v x) u) : u = x := by
  cases h with
  | pl _ _ h => exact h.v_inv
theorem R.vv {β : Bt} {O : Nat → Prop} {w : World} (x : Value) : R β O w (.v x) x := .pl _ _ (.v x)

theorem R.ag_inv {β : Bt} {O : Nat → Prop} {w : World} {cs : List AV} {u : Value} (h : R β O w (.ag cs) u) :
    ∃ us : Array Value, u = .agg us ∧ us.size = cs.length ∧ ∀ (i : Nat) (c : AV), cs[i]? = some c → ∃ x : Value, us[i]? = some x ∧ R β O w c x := by
  cases h with
  | pl _ _ h =>
    cases h with
    | ag _ us f hs hu hr => exact ⟨us, rfl, hs, fun i c hc => ⟨f i, hu i c hc, .pl _ _ (hr i c hc)⟩⟩
  | ag _ us f hs hu hr => exact ⟨us, rfl, hs, fun i c hc => ⟨f i, hu i c hc, hr i c hc⟩⟩

theorem R.tu_inv {β : Bt} {O : Nat → Prop} {w : World} {cs : List AV} {u : Value} (h : R β O w (.tu cs) u) :
    ∃ us : Array Value, u = .tuple us ∧ us.size = cs.length ∧ ∀ (i : Nat) (c : AV), cs[i]? = some c → ∃ x : Value, us[i]? = some x ∧ R β O w c x := by
  cases h with
  | pl _ _ h =>
    cases h with
    | tu _ us f hs hu hr => exact ⟨us, rfl, hs, fun i c hc => ⟨f i, hu i c hc, .pl _ _ (hr i c hc)⟩⟩
  | tu _ us f hs hu hr => exact ⟨us, rfl, hs, fun i c hc => ⟨f i, hu i c hc, hr i c hc⟩⟩

theorem R.fn_inv {β : Bt} {O : Nat → Prop} {w : World} {fn : Fn} {cs ds : List AV} {u : Value} (h : R β O w (.fn fn cs ds) u) :
    ∃ us vs : Array Value, u = .func fn us vs ∧ us.size = cs.length ∧ vs.size = ds.length ∧ (∀ (i : Nat) (c : AV), cs[i]? = some c → ∃ x : Value, us[i]? = some x ∧ R β O w c x) ∧
      (∀ (i : Nat) (c : AV), ds[i]? = some c → ∃ x : Value, vs[i]? = some x ∧ R β O w c x) := by
  cases h with
  | pl _ _ h =>
    cases h with
    | fn _ _ _ us vs f g hs ht hu hr hv hq => exact ⟨us, vs, rfl, hs, ht, fun i c hc => ⟨f i, hu i c hc, .pl _ _ (hr i c hc)⟩, fun i c hc => ⟨g i, hv i c hc, .pl _ _ (hq i c hc)⟩⟩
  | fn _ _ _ us vs f g hs ht hu hr hv hq => exact ⟨us, vs, rfl, hs, ht, fun i c hc => ⟨f i, hu i c hc, hr i c hc⟩, fun i c hc => ⟨g i, hv i c hc, hq i c hc⟩⟩

theorem R.ic_inv {β : Bt} {O : Nat → Prop} {w : World} {t : TypeId} {x : AV} {u : Value} (h : R β O w (.ic t x) u) : ∃ y, u = .iface t y ∧ R β O w x y := by
  cases h with
  | pl _ _ h =>
    cases h with
    | ic _ _ u h => exact ⟨u, rfl, .pl _ _ h⟩
  | ic _ _ u h => exact ⟨u, rfl, h⟩

theorem R.lp_inv {β : Bt} {O : Nat → Prop} {w : World} {k off : Nat} {u : Value} (h : R β O w (.lp k off) u) : ∃ b st, β k = some (some (b, st)) ∧ u = .pointer (some ⟨b, st + off, none⟩) := by
  cases h with
  | pl _ _ h => cases h
  | lp _ _ b st hk => exact ⟨b, st, hk, rfl⟩

theorem R.ls_inv {β : Bt} {O : Nat → Prop} {w : World} {k off sz n : Nat} {u : Value} (h : R β O w (.ls k off sz n) u) :
    (β k = some none ∧ n = 0 ∧ ∃ a, u = .slice a 0 0 ∧ ∀ ad, a = some ad → ∃ b of, ad = ⟨b, of, none⟩ ∧ ¬ O b ∧ b < w.heap.size) ∨ ∃ b st cap, β k = some (some (b, st)) ∧ n ≤ cap ∧ u = .slice (some ⟨b, st + off, none⟩) n cap ∧
      ∃ (arr : Array Value) (e : TypeId) (fz : Nat × Nat), w.heap[b]? = some (Obj.cells arr e fz) ∧ st + off + cap * sz ≤ arr.size := by
  cases h with
  | pl _ _ h => cases h
  | lsn _ _ _ a hk ha => exact .inl ⟨hk, rfl, a, rfl, ha⟩
  | ls _ _ _ _ b st cap hk hn hsz => exact .inr ⟨b, st, cap, hk, hn, rfl, hsz⟩

/-- A readable slice: its value, and its cells. -/
theorem R.sl_inv {β : Bt} {O : Nat → Prop} {w : World} {sz n : Nat} {cs : List AV} {u : Value} (h : R β O w (.sl sz n cs) u) :
    cs.length = n * sz ∧ ((n = 0 ∧ cs = [] ∧ u = .slice none 0 0) ∨ ∃ b off cap, ¬ O b ∧ b < w.heap.size ∧ n ≤ cap ∧ u = .slice (some ⟨b, off, none⟩) n cap ∧
      ∀ (i : Nat) (c : AV), cs[i]? = some c → ∃ x : Value, w.cell? ⟨b, off + i, none⟩ = some x ∧ Rp O w c x) := by
  cases h with
  | pl _ _ h =>
    cases h with
    | nil => exact ⟨by simp, .inl ⟨rfl, rfl, rfl⟩⟩
    | sl _ _ _ b off cap f hO hb hn hl hc hr => exact ⟨hl, .inr ⟨b, off, cap, hO, hb, hn, rfl, fun i c h => ⟨f i, hc i c h, hr i c h⟩⟩⟩

theorem R.pt_inv {β : Bt} {O : Nat → Prop} {w : World} {i : Nat} {cs : List AV} {u : Value} (h : R β O w (.pt cs i) u) :
    ∃ b off, ¬ O b ∧ b < w.heap.size ∧ u = .pointer (some ⟨b, off + i, none⟩) ∧ ∀ (i : Nat) (c : AV), cs[i]? = some c → ∃ x : Value, w.cell? ⟨b, off + i, none⟩ = some x ∧ Rp O w c x := by
  cases h with
  | pl _ _ h =>
    cases h with
    | pt _ _ b off f hO hb hc hr => exact ⟨b, off, hO, hb, rfl, fun i c h => ⟨f i, hc i c h, hr i c h⟩⟩

/-- A family of choices, one an index. -/
theorem pick_family {cs : List AV} {p : Nat → AV → Value → Prop} (h : ∀ (i : Nat) (c : AV), cs[i]? = some c → ∃ x, p i c x) : ∃ f : Nat → Value, ∀ (i : Nat) (c : AV), cs[i]? = some c → p i c (f i) := by
  have h' : ∀ i : Nat, ∃ x : Value, ∀ c : AV, cs[i]? = some c → p i c x := fun i => by
    cases hc : cs[i]? with
    | none => exact ⟨undef, fun c h => by cases h⟩
    | some c => exact ⟨(h i c hc).choose, fun c' h' => by cases h'; exact (h i c hc).choose_spec⟩
  exact ⟨fun i => (h' i).choose, fun i c hc => (h' i).choose_spec c hc⟩

theorem R.mk_ag {β : Bt} {O : Nat → Prop} {w : World} {cs : List AV} {us : Array Value} (hs : us.size = cs.length) (h : ∀ (i : Nat) (c : AV), cs[i]? = some c → ∃ x : Value, us[i]? = some x ∧ R β O w c x) : R β O w (.ag cs) (.agg us) := by
  obtain ⟨f, hf⟩ := pick_family h
  exact .ag cs us f hs (fun i c hc => (hf i c hc).1) (fun i c hc => (hf i c hc).2)
theorem R.mk_tu {β : Bt} {O : Nat → Prop} {w : World} {cs : List AV} {us : Array Value} (hs : us.size = cs.length) (h : ∀ (i : Nat) (c : AV), cs[i]? = some c → ∃ x : Value, us[i]? = some x ∧ R β O w c x) : R β O w (.tu cs) (.tuple us) := by
  obtain ⟨f, hf⟩ := pick_family h
  exact .tu cs us f hs (fun i c hc => (hf i c hc).1) (fun i c hc => (hf i c hc).2)
theorem R.mk_fn {β : Bt} {O : Nat → Prop} {w : World} {fn : Fn} {cs ds : List AV} {us vs : Array Value} (hs : us.size = cs.length) (ht : vs.size = ds.length)
    (h : ∀ (i : Nat) (c : AV), cs[i]? = some c → ∃ x : Value, us[i]? = some x ∧ R β O w c x) (k : ∀ (i : Nat) (c : AV), ds[i]? = some c → ∃ x : Value, vs[i]? = some x ∧ R β O w c x) : R β O w (.fn fn cs ds) (.func fn us vs) := by
  obtain ⟨f, hf⟩ := pick_family h
  obtain ⟨g, hg⟩ := pick_family k
  exact .fn fn cs ds us vs f g hs ht (fun i c hc => (hf i c hc).1) (fun i c hc => (hf i c hc).2) (fun i c hc => (hg i c hc).1) (fun i c hc => (hg i c hc).2)
theorem Rp.mk_sl {O : Nat → Prop} {w : World} {sz n : Nat} {cs : List AV} {b off cap : Nat} (hO : ¬ O b) (hb : b < w.heap.size) (hn : n ≤ cap) (hl : cs.length = n * sz)
    (h : ∀ (i : Nat) (c : AV), cs[i]? = some c → ∃ x : Value, w.cell? ⟨b, off + i, none⟩ = some x ∧ Rp O w c x) : Rp O w (.sl sz n cs) (.slice (some ⟨b, off, none⟩) n cap) := by
  obtain ⟨f, hf⟩ := pick_family h
  exact .sl sz n cs b off cap f hO hb hn hl (fun i c hc => (hf i c hc).1) (fun i c hc => (hf i c hc).2)
theorem Rp.mk_pt {O : Nat → Prop} {w : World} {i : Nat} {cs : List AV} {b off : Nat} (hO : ¬ O b) (hb : b < w.heap.size)
    (h : ∀ (i : Nat) (c : AV), cs[i]? = some c → ∃ x : Value, w.cell? ⟨b, off + i, none⟩ = some x ∧ Rp O w c x) : Rp O w (.pt cs i) (.pointer (some ⟨b, off + i, none⟩)) := by
  obtain ⟨f, hf⟩ := pick_family h
  exact .pt cs i b off f hO hb (fun i c hc => (hf i c hc).1) (fun i c hc => (hf i c hc).2)

/-- The heap of local rows. -/
abbrev Hp := Nat → Option (List AV)

/-- A row in memory. -/
def RowAt (β : Bt) (O : Nat → Prop) (w : World) (b st : Nat) (c : List AV) : Prop :=
  ∃ (arr : Array Value) (e : TypeId), w.heap[b]? = some (Obj.cells arr e (0, 0)) ∧ st + c.length ≤ arr.size ∧ ∀ j x, c[j]? = some x → ∃ u, arr[st + j]? = some u ∧ R β O w x u

/-- Every block of B is there. -/
def Bk (B : Nat → Prop) (w : World) : Prop := ∀ b, B b → b < w.heap.size

/-- Blocks of B stay as they are, and stay in O. -/
structure Pr (B : Nat → Prop) (O : Nat → Prop) (w : World) (O' : Nat → Prop) (w' : World) : Prop where
  os : w'.os = w.os
  tape : w'.tape = w.tape
  output : w'.output = w.output
  block : ∀ b, B b → w'.heap[b]? = w.heap[b]?
  own : ∀ b, B b → O b → O' b
  bk : Bk O w → Bk O' w'

theorem Pr.refl (B O : Nat → Prop) (w : World) : Pr B O w O w := ⟨rfl, rfl, rfl, fun _ _ => rfl, fun _ _ h => h, fun h => h⟩
theorem Pr.trans {B O O' O'' : Nat → Prop} {w w' w'' : World} (h : Pr B O w O' w') (k : Pr B O' w' O'' w'') : Pr B O w O'' w'' :=
  ⟨k.os.trans h.os, k.tape.trans h.tape, k.output.trans h.output, fun b hb => (k.block b hb).trans (h.block b hb), fun b hb ho => k.own b hb (h.own b hb ho), fun hb => k.bk (h.bk hb)⟩
theorem Pr.mono {B B' O O' : Nat → Prop} {w w' : World} (h : Pr B O w O' w') (hb : ∀ b, B' b → B b) : Pr B' O w O' w' :=
  ⟨h.os, h.tape, h.output, fun b k => h.block b (hb b k), fun b k => h.own b (hb b k), h.bk⟩
theorem Bk.gr {B : Nat → Prop} {w w' : World} (h : Bk B w) (g : w.heap.size ≤ w'.heap.size) : Bk B w' := fun b hb => Nat.lt_of_lt_of_le (h b hb) g
theorem Pr.of_gr {B O : Nat → Prop} {w w' : World} (h : Gr w w') (hb : Bk B w) : Pr B O w O w' :=
  ⟨h.os, h.tape, h.output, fun b k => h.block b (hb b k), fun _ _ h => h, fun k => k.gr h.size⟩

structure HC (B0 : Nat → Prop) (O0 : Nat → Prop) (β : Bt) (O : Nat → Prop) (H : Hp) (nx : Nat) (w : World) : Prop where
  row : ∀ k c, H k = some c → (β k = some none ∧ c = []) ∨ ∃ b st, β k = some (some (b, st)) ∧ O b ∧ ¬ B0 b ∧ RowAt β O w b st c
  inj : ∀ k k' b st st', H k ≠ none → H k' ≠ none → β k = some (some (b, st)) → β k' = some (some (b, st')) → k = k'
  own : Bk O w
  base : ∀ b, O0 b → O b ∧ B0 b
  free : ∀ k, nx ≤ k → H k = none
  fresh : ∀ k, nx ≤ k → β k = none

theorem RowAt.gr {β : Bt} {O : Nat → Prop} {w w' : World} {b st : Nat} {c : List AV} (g : Gr w w') (h : RowAt β O w b st c) : RowAt β O w' b st c := by
  obtain ⟨arr, e, h1, h2, h3⟩ := h
  have hlt : b < w.heap.size := by
    rcases Nat.lt_or_ge b w.heap.size with h' | h'
    · exact h'
    · simp [Array.getElem?_eq_none h'] at h1
  exact ⟨arr, e, by rw [g.block b hlt]; exact h1, h2, fun j x hj => let ⟨u, a, r⟩ := h3 j x hj; ⟨u, a, r.gr g⟩⟩

theorem HC.gr {B0 : Nat → Prop} {O0 : Nat → Prop} {β : Bt} {O : Nat → Prop} {H : Hp} {nx : Nat} {w w' : World} (g : Gr w w') (h : HC B0 O0 β O H nx w) : HC B0 O0 β O H nx w' := by
  refine ⟨fun k c hk => ?_, h.inj, h.own.gr g.size, h.base, h.free, h.fresh⟩
  rcases h.row k c hk with h1 | ⟨b, st, h1, h2, h3, h4⟩
  · exact .inl h1
  · exact .inr ⟨b, st, h1, h2, h3, h4.gr g⟩

/-- Reading a cell of a row. -/
theorem RowAt.cell {β : Bt} {O : Nat → Prop} {w : World} {b st : Nat} {c : List AV} (h : RowAt β O w b st c) {j : Nat} {x : AV} (hj : c[j]? = some x) : ∃ u, w.cell? ⟨b, st + j, none⟩ = some u ∧ R β O w x u := by
  obtain ⟨arr, e, h1, h2, h3⟩ := h
  obtain ⟨u, a, r⟩ := h3 j x hj
  exact ⟨u, by simp [World.cell?, h1, a], r⟩

theorem RowAt.lt {β : Bt} {O : Nat → Prop} {w : World} {b st : Nat} {c : List AV} (h : RowAt β O w b st c) : b < w.heap.size := by
  obtain ⟨arr, e, h1, h2, h3⟩ := h
  rcases Nat.lt_or_ge b w.heap.size with h' | h'
  · exact h'
  · simp [Array.getElem?_eq_none h'] at h1


/-! ### ranges over functions -/
def Rps (O : Nat → Prop) (w : World) (avs : List AV) (vs : Array Value) : Prop :=
  vs.size = avs.length ∧ ∀ (i : Nat) (a : AV), avs[i]? = some a → ∃ u : Value, vs[i]? = some u ∧ Rp O w a u

/-- What a round changes, as the iterator sees it: B, the blocks that are not its own. -/
structure Rnd (B O : Nat → Prop) (w : World) (B' O' : Nat → Prop) (w' : World) : Prop where
  tr : Tr O w O' w'
  mine : ∀ b, b < w.heap.size → O b → ¬ B b → w'.heap[b]? = w.heap[b]? ∧ O' b ∧ ¬ B' b
  mono : ∀ b, B b → B' b
  less : ∀ b, b < w.heap.size → B' b → B b
  own : Bk O' w'
  bk : Bk B' w'

/-- A loop over a function, as the iterator sees it: the loop's record; what the rounds are given; what holds ahead of a round. -/
structure Yd where
  l : Nat
  ys : Nat → Option (List AV)
  I : Nat → (Nat → Prop) → (Nat → Prop) → World → Prop

structure YdOk (P : Program) (y : Yd) : Prop where
  stab : ∀ (t : Nat) (B O : Nat → Prop) (w : World) (O' : Nat → Prop) (w' : World), y.I t B O w → Tr O w O' w' → Pr B O w O' w' → y.I t B O' w'
  rnd : ∀ (t : Nat) (avs : List AV) (B O : Nat → Prop) (w : World) (vs : Array Value), y.ys t = some avs → Rps O w avs vs → y.I t B O w → Bk O w → Bk B w →
    ∃ (f : FuncId) (tmps : Array Value) (assign body : Code), (Instr.yield y.l vs).run P w = .ok (.round y.l f tmps assign body) w ∧
      RoundIn Fence.wide 0 P y.l f tmps assign body w (fun e w' => e = .returned (.bool true) ∧ ∃ B' O', y.I (t + 1) B' O' w' ∧ Rnd B O w B' O' w')

end Go.Ab

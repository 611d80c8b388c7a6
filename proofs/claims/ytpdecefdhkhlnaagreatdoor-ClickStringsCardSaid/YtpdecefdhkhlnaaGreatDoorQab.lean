/- Parts of the proof, put together by a program. -/
import Derived.WalkKit
import Derived.OrdersIn
import Derived.TacticsIn
import Derived.RangeFuncFrom
import Derived.Lib.ConvBytes
import Derived.Laws.AppendOwn
import Derived.Laws.BytesString
set_option linter.unusedVariables false
set_option linter.unusedSectionVars false
set_option linter.unusedSimpArgs false
namespace Go.Ab
structure Tr (O : Nat → Prop) (w : World) (O' : Nat → Prop) (w' : World) : Prop where
  size : w.heap.size ≤ w'.heap.size
  keep : ∀ b, b < w.heap.size → ¬ O b → w'.heap[b]? = w.heap[b]? ∧ ¬ O' b
  row : ∀ (b : Nat) (arr : Array Value) (e : TypeId) (fz : Nat × Nat), w.heap[b]? = some (Obj.cells arr e fz) → ∃ (arr' : Array Value) (fz' : Nat × Nat), w'.heap[b]? = some (Obj.cells arr' e fz') ∧ arr'.size = arr.size
class Dr where
  loose : Prop
  inv : (Nat → Prop) → World → Prop
  keep : ∀ {O : Nat → Prop} {w : World} {O' : Nat → Prop} {w' : World}, Tr O w O' w' → inv O w → inv O' w'
  dead : ∀ {O : Nat → Prop} {w : World} {D : Nat} {x : Option (List Deferred)} (o : Obj), w.heap[D]? = some (Obj.deferred x) → inv O w → inv O (w.putObj D o)
abbrev drS : Dr := ⟨False, fun _ _ => True, fun _ h => h, fun _ _ h => h⟩
variable [Dr]
def dle (a b : Nat) : Prop := Dr.loose ∨ a ≤ b
theorem dle.of {a b : Nat} (h : a ≤ b) : dle a b := .inr h
theorem dle.trans {a b c : Nat} (h : dle a b) (k : dle b c) : dle a c := h.elim .inl fun h => k.elim .inl fun k => .inr (Nat.le_trans h k)
theorem dle.succ {a b : Nat} (h : dle a b) : dle a (b + 1) := h.trans (.of (Nat.le_succ _))
open Go.RowKit
inductive AV where
  | v (x : Value)
  | sl (sz n : Nat) (cs : List AV)
  | pt (cs : List AV) (i : Nat)
  | ag (cs : List AV)
  | tu (vs : List AV)
  | fn (f : Fn) (first captured : List AV)
  | ic (t : TypeId) (x : AV)
  | lp (k off : Nat)
  | ls (k off sz n : Nat)
  | qt (cs : List AV) (i : Nat)
  | any
  deriving Inhabited
abbrev Bt := Nat → Option (Option (Nat × Nat))
inductive Rp (O : Nat → Prop) (w : World) : AV → Value → Prop where
  | v (x : Value) : Rp O w (.v x) x
  | nla (sz : Nat) (a : Option Addr) : Rp O w (.sl sz 0 []) (.slice a 0 0)
  | sl (sz n : Nat) (cs : List AV) (b off cap : Nat) (f : Nat → Value) (hO : ¬ O b) (hb : b < w.heap.size) (hn : n ≤ cap) (hl : cs.length = n * sz)
      (hc : ∀ (i : Nat) (c : AV), cs[i]? = some c → w.cell? ⟨b, off + i, none⟩ = some (f i)) (hr : ∀ (i : Nat) (c : AV), cs[i]? = some c → Rp O w c (f i)) :
      Rp O w (.sl sz n cs) (.slice (some ⟨b, off, none⟩) n cap)
  | pt (cs : List AV) (i b off : Nat) (f : Nat → Value) (hO : ¬ O b) (hb : b < w.heap.size)
      (hc : ∀ (i : Nat) (c : AV), cs[i]? = some c → w.cell? ⟨b, off + i, none⟩ = some (f i)) (hr : ∀ (i : Nat) (c : AV), cs[i]? = some c → Rp O w c (f i)) :
      Rp O w (.pt cs i) (.pointer (some ⟨b, off + i, none⟩))
  | ag (cs : List AV) (us : Array Value) (f : Nat → Value) (hs : us.size = cs.length) (hu : ∀ (i : Nat) (c : AV), cs[i]? = some c → us[i]? = some (f i)) (hr : ∀ (i : Nat) (c : AV), cs[i]? = some c → Rp O w c (f i)) :
      Rp O w (.ag cs) (.agg us)
  | tu (cs : List AV) (us : Array Value) (f : Nat → Value) (hs : us.size = cs.length) (hu : ∀ (i : Nat) (c : AV), cs[i]? = some c → us[i]? = some (f i)) (hr : ∀ (i : Nat) (c : AV), cs[i]? = some c → Rp O w c (f i)) :
      Rp O w (.tu cs) (.tuple us)
  | fn (fn : Fn) (cs ds : List AV) (us vs : Array Value) (f g : Nat → Value) (hs : us.size = cs.length) (ht : vs.size = ds.length)
      (hu : ∀ (i : Nat) (c : AV), cs[i]? = some c → us[i]? = some (f i)) (hr : ∀ (i : Nat) (c : AV), cs[i]? = some c → Rp O w c (f i))
      (hv : ∀ (i : Nat) (c : AV), ds[i]? = some c → vs[i]? = some (g i)) (hq : ∀ (i : Nat) (c : AV), ds[i]? = some c → Rp O w c (g i)) :
      Rp O w (.fn fn cs ds) (.func fn us vs)
  | ic (t : TypeId) (x : AV) (u : Value) (h : Rp O w x u) : Rp O w (.ic t x) (.iface t u)
inductive R (β : Bt) (O : Nat → Prop) (w : World) : AV → Value → Prop where
  | pl (a : AV) (u : Value) (h : Rp O w a u) : R β O w a u
  | any (u : Value) : R β O w .any u
  | ag (cs : List AV) (us : Array Value) (f : Nat → Value) (hs : us.size = cs.length) (hu : ∀ (i : Nat) (c : AV), cs[i]? = some c → us[i]? = some (f i)) (hr : ∀ (i : Nat) (c : AV), cs[i]? = some c → R β O w c (f i)) :
      R β O w (.ag cs) (.agg us)
  | tu (cs : List AV) (us : Array Value) (f : Nat → Value) (hs : us.size = cs.length) (hu : ∀ (i : Nat) (c : AV), cs[i]? = some c → us[i]? = some (f i)) (hr : ∀ (i : Nat) (c : AV), cs[i]? = some c → R β O w c (f i)) :
      R β O w (.tu cs) (.tuple us)
  | fn (fn : Fn) (cs ds : List AV) (us vs : Array Value) (f g : Nat → Value) (hs : us.size = cs.length) (ht : vs.size = ds.length)
      (hu : ∀ (i : Nat) (c : AV), cs[i]? = some c → us[i]? = some (f i)) (hr : ∀ (i : Nat) (c : AV), cs[i]? = some c → R β O w c (f i))
      (hv : ∀ (i : Nat) (c : AV), ds[i]? = some c → vs[i]? = some (g i)) (hq : ∀ (i : Nat) (c : AV), ds[i]? = some c → R β O w c (g i)) :
      R β O w (.fn fn cs ds) (.func fn us vs)
  | ic (t : TypeId) (x : AV) (u : Value) (h : R β O w x u) : R β O w (.ic t x) (.iface t u)
  | lp (k off b st : Nat) (hk : β k = some (some (b, st))) : R β O w (.lp k off) (.pointer (some ⟨b, st + off, none⟩))
  | lsn (k off sz : Nat) (a : Option Addr) (hk : β k = some none) (ha : True) : R β O w (.ls k off sz 0) (.slice a 0 0)
  | ls (k off sz n b st cap : Nat) (hk : β k = some (some (b, st))) (hn : n ≤ cap)
      (hsz : ∃ (arr : Array Value) (e : TypeId) (fz : Nat × Nat), w.heap[b]? = some (Obj.cells arr e fz) ∧ st + off + cap * sz ≤ arr.size) :
      R β O w (.ls k off sz n) (.slice (some ⟨b, st + off, none⟩) n cap)
  | qt (cs : List AV) (i b off : Nat) (f : Nat → Value) (hO : ¬ O b) (hb : b < w.heap.size)
      (hc : ∀ (i : Nat) (c : AV), cs[i]? = some c → w.cell? ⟨b, off + i, none⟩ = some (f i)) (hr : ∀ (i : Nat) (c : AV), cs[i]? = some c → R β O w c (f i)) :
      R β O w (.qt cs i) (.pointer (some ⟨b, off + i, none⟩))
structure Gr (w w' : World) : Prop where
  os : w'.os = w.os
  tape : w'.tape = w.tape
  output : w'.output = w.output
  drawn : dle w.drawn w'.drawn
  size : w.heap.size ≤ w'.heap.size
  block : ∀ k, k < w.heap.size → w'.heap[k]? = w.heap[k]?
theorem Gr.below {w w' : World} (h : Gr w w') : Below w.heap.size w w' := ⟨h.os, h.tape, h.output, h.size, h.block⟩
theorem Gr.of_below {w w' : World} (h : Below w.heap.size w w') (hd : dle w.drawn w'.drawn) : Gr w w' := ⟨h.os, h.tape, h.output, hd, h.size, h.block⟩
theorem Gr.refl (w : World) : Gr w w := ⟨rfl, rfl, rfl, .of (Nat.le_refl _), Nat.le_refl _, fun _ _ => rfl⟩
theorem Gr.trans {a b c : World} (h : Gr a b) (k : Gr b c) : Gr a c :=
  ⟨k.os.trans h.os, k.tape.trans h.tape, k.output.trans h.output, h.drawn.trans k.drawn, Nat.le_trans h.size k.size, fun i hi => (k.block i (Nat.lt_of_lt_of_le hi h.size)).trans (h.block i hi)⟩
theorem Gr.drew {a w : World} (h : Gr a w) : Gr a { w with drawn := w.drawn + 1 } := ⟨h.os, h.tape, h.output, h.drawn.succ, h.size, h.block⟩
theorem Gr.alloc {a w : World} (h : Gr a w) (ob : Obj) : Gr a (w.alloc ob) := .of_below (Below.alloc h.below h.size ob) h.drawn
theorem Tr.refl (O : Nat → Prop) (w : World) : Tr O w O w := ⟨Nat.le_refl _, fun _ _ h => ⟨rfl, h⟩, fun _ arr _ fz h => ⟨arr, fz, h, rfl⟩⟩
theorem Tr.trans {O O' O'' : Nat → Prop} {w w' w'' : World} (h : Tr O w O' w') (k : Tr O' w' O'' w'') : Tr O w O'' w'' := by
  refine ⟨Nat.le_trans h.size k.size, fun b hb ho => ?_, fun b arr e fz hb => ?_⟩
  · obtain ⟨h1, h2⟩ := h.keep b hb ho
    obtain ⟨k1, k2⟩ := k.keep b (Nat.lt_of_lt_of_le hb h.size) h2
    exact ⟨k1.trans h1, k2⟩
  · obtain ⟨a1, f1, h1, s1⟩ := h.row b arr e fz hb
    obtain ⟨a2, f2, h2, s2⟩ := k.row b a1 e f1 h1
    exact ⟨a2, f2, h2, s2.trans s1⟩
theorem Tr.of_gr {O : Nat → Prop} {w w' : World} (h : Gr w w') : Tr O w O w' := by
  refine ⟨h.size, fun b hb ho => ⟨h.block b hb, ho⟩, fun b arr e fz hb => ?_⟩
  have hlt : b < w.heap.size := by
    rcases Nat.lt_or_ge b w.heap.size with h' | h'
    · exact h'
    · simp [Array.getElem?_eq_none h'] at hb
  exact ⟨arr, fz, by rw [h.block b hlt]; exact hb, rfl⟩
theorem Tr.cell {O O' : Nat → Prop} {w w' : World} (h : Tr O w O' w') {b off : Nat} (hb : b < w.heap.size) (ho : ¬ O b) : w'.cell? ⟨b, off, none⟩ = w.cell? ⟨b, off, none⟩ :=
  World.cell?_of_block (w := w) (a := ⟨b, off, none⟩) (h.keep b hb ho).1
theorem Rp.mono {O O' : Nat → Prop} {w w' : World} (t : Tr O w O' w') {a : AV} {u : Value} (h : Rp O w a u) : Rp O' w' a u := by
  induction h with
  | v x => exact .v x
  | nla sz a => exact .nla sz a
  | sl sz n cs b off cap f hO hb hn hl hc hr ih => exact .sl sz n cs b off cap f (t.keep b hb hO).2 (Nat.lt_of_lt_of_le hb t.size) hn hl (fun i c h => by rw [t.cell hb hO]; exact hc i c h) ih
  | pt cs i b off f hO hb hc hr ih => exact .pt cs i b off f (t.keep b hb hO).2 (Nat.lt_of_lt_of_le hb t.size) (fun i c h => by rw [t.cell hb hO]; exact hc i c h) ih
  | ag cs us f hs hu hr ih => exact .ag cs us f hs hu ih
  | tu cs us f hs hu hr ih => exact .tu cs us f hs hu ih
  | fn fn cs ds us vs f g hs ht hu hr hv hq ih1 ih2 => exact .fn fn cs ds us vs f g hs ht hu ih1 hv ih2
  | ic t x u h ih => exact .ic t x u ih
theorem R.mono {β β' : Bt} {O O' : Nat → Prop} {w w' : World} (t : Tr O w O' w') (hβ : ∀ k p, β k = some p → β' k = some p) {a : AV} {u : Value} (h : R β O w a u) : R β' O' w' a u := by
  induction h with
  | pl a u h => exact .pl a u (h.mono t)
  | any u => exact .any u
  | ag cs us f hs hu hr ih => exact .ag cs us f hs hu ih
  | tu cs us f hs hu hr ih => exact .tu cs us f hs hu ih
  | fn fn cs ds us vs f g hs ht hu hr hv hq ih1 ih2 => exact .fn fn cs ds us vs f g hs ht hu ih1 hv ih2
  | ic t x u h ih => exact .ic t x u ih
  | lp k off b st hk => exact .lp k off b st (hβ _ _ hk)
  | lsn k off sz a hk ha => exact .lsn k off sz a (hβ _ _ hk) trivial
  | ls k off sz n b st cap hk hn' hsz =>
    obtain ⟨arr, e, fz, h1, h2⟩ := hsz
    obtain ⟨arr', fz', h3, h4⟩ := t.row b arr e fz h1
    exact .ls k off sz n b st cap (hβ _ _ hk) hn' ⟨arr', e, fz', h3, by rw [h4]; exact h2⟩
  | qt cs i b off f hO hb hc hr ih => exact .qt cs i b off f (t.keep b hb hO).2 (Nat.lt_of_lt_of_le hb t.size) (fun i c h => by rw [t.cell hb hO]; exact hc i c h) ih
theorem R.gr {β : Bt} {O : Nat → Prop} {w w' : World} (g : Gr w w') {a : AV} {u : Value} (h : R β O w a u) : R β O w' a u :=
  h.mono (Tr.of_gr g) (fun _ _ h => h)
theorem Rp.v_inv {O : Nat → Prop} {w : World} {x u : Value} (h : Rp O w (.v x) u) : u = x := by cases h; rfl
theorem R.v_inv {β : Bt} {O : Nat → Prop} {w : World} {x u : Value} (h : R β O w (.v x) u) : u = x := by
  cases h with
  | pl _ _ h => exact h.v_inv
theorem R.vv {β : Bt} {O : Nat → Prop} {w : World} (x : Value) : R β O w (.v x) x := .pl _ _ (.v x)
theorem R.ag_inv {β : Bt} {O : Nat → Prop} {w : World} {cs : List AV} {u : Value} (h : R β O w (.ag cs) u) :
    ∃ us : Array Value, u = .agg us ∧ us.size = cs.length ∧ ∀ (i : Nat) (c : AV), cs[i]? = some c → ∃ x : Value, us[i]? = some x ∧ R β O w c x := by
  cases h with
  | pl _ _ h =>
    cases h with
    | ag _ us f hs hu hr => exact ⟨us, rfl, hs, fun i c hc => ⟨f i, hu i c hc, .pl _ _ (hr i c hc)⟩⟩
  | ag _ us f hs hu hr => exact ⟨us, rfl, hs, fun i c hc => ⟨f i, hu i c hc, hr i c hc⟩⟩
theorem R.tu_inv {β : Bt} {O : Nat → Prop} {w : World} {cs : List AV} {u : Value} (h : R β O w (.tu cs) u) :
    ∃ us : Array Value, u = .tuple us ∧ us.size = cs.length ∧ ∀ (i : Nat) (c : AV), cs[i]? = some c → ∃ x : Value, us[i]? = some x ∧ R β O w c x := by
  cases h with
  | pl _ _ h =>
    cases h with
    | tu _ us f hs hu hr => exact ⟨us, rfl, hs, fun i c hc => ⟨f i, hu i c hc, .pl _ _ (hr i c hc)⟩⟩
  | tu _ us f hs hu hr => exact ⟨us, rfl, hs, fun i c hc => ⟨f i, hu i c hc, hr i c hc⟩⟩
theorem R.fn_inv {β : Bt} {O : Nat → Prop} {w : World} {fn : Fn} {cs ds : List AV} {u : Value} (h : R β O w (.fn fn cs ds) u) :
    ∃ us vs : Array Value, u = .func fn us vs ∧ us.size = cs.length ∧ vs.size = ds.length ∧ (∀ (i : Nat) (c : AV), cs[i]? = some c → ∃ x : Value, us[i]? = some x ∧ R β O w c x) ∧
      (∀ (i : Nat) (c : AV), ds[i]? = some c → ∃ x : Value, vs[i]? = some x ∧ R β O w c x) := by
  cases h with
  | pl _ _ h =>
    cases h with
    | fn _ _ _ us vs f g hs ht hu hr hv hq => exact ⟨us, vs, rfl, hs, ht, fun i c hc => ⟨f i, hu i c hc, .pl _ _ (hr i c hc)⟩, fun i c hc => ⟨g i, hv i c hc, .pl _ _ (hq i c hc)⟩⟩
  | fn _ _ _ us vs f g hs ht hu hr hv hq => exact ⟨us, vs, rfl, hs, ht, fun i c hc => ⟨f i, hu i c hc, hr i c hc⟩, fun i c hc => ⟨g i, hv i c hc, hq i c hc⟩⟩
theorem R.ic_inv {β : Bt} {O : Nat → Prop} {w : World} {t : TypeId} {x : AV} {u : Value} (h : R β O w (.ic t x) u) : ∃ y, u = .iface t y ∧ R β O w x y := by
  cases h with
  | pl _ _ h =>
    cases h with
    | ic _ _ u h => exact ⟨u, rfl, .pl _ _ h⟩
  | ic _ _ u h => exact ⟨u, rfl, h⟩
theorem R.lp_inv {β : Bt} {O : Nat → Prop} {w : World} {k off : Nat} {u : Value} (h : R β O w (.lp k off) u) : ∃ b st, β k = some (some (b, st)) ∧ u = .pointer (some ⟨b, st + off, none⟩) := by
  cases h with
  | pl _ _ h => cases h
  | lp _ _ b st hk => exact ⟨b, st, hk, rfl⟩
theorem R.qt_inv {β : Bt} {O : Nat → Prop} {w : World} {cs : List AV} {i : Nat} {u : Value} (h : R β O w (.qt cs i) u) : ∃ b off, ¬ O b ∧ b < w.heap.size ∧ u = .pointer (some ⟨b, off + i, none⟩) ∧
    ∀ (i : Nat) (c : AV), cs[i]? = some c → ∃ x : Value, w.cell? ⟨b, off + i, none⟩ = some x ∧ R β O w c x := by
  cases h with
  | pl _ _ h => cases h
  | qt _ _ b off f hO hb hc hr => exact ⟨b, off, hO, hb, rfl, fun i c h => ⟨f i, hc i c h, hr i c h⟩⟩
theorem R.ls_inv {β : Bt} {O : Nat → Prop} {w : World} {k off sz n : Nat} {u : Value} (h : R β O w (.ls k off sz n) u) :
    (β k = some none ∧ n = 0 ∧ ∃ a, u = .slice a 0 0 ∧ True) ∨ ∃ b st cap, β k = some (some (b, st)) ∧ n ≤ cap ∧ u = .slice (some ⟨b, st + off, none⟩) n cap ∧
      ∃ (arr : Array Value) (e : TypeId) (fz : Nat × Nat), w.heap[b]? = some (Obj.cells arr e fz) ∧ st + off + cap * sz ≤ arr.size := by
  cases h with
  | pl _ _ h => cases h
  | lsn _ _ _ a hk ha => exact .inl ⟨hk, rfl, a, rfl, ha⟩
  | ls _ _ _ _ b st cap hk hn hsz => exact .inr ⟨b, st, cap, hk, hn, rfl, hsz⟩
theorem R.sl_inv {β : Bt} {O : Nat → Prop} {w : World} {sz n : Nat} {cs : List AV} {u : Value} (h : R β O w (.sl sz n cs) u) :
    cs.length = n * sz ∧ ((n = 0 ∧ cs = [] ∧ ∃ ad, u = .slice ad 0 0) ∨ ∃ b off cap, ¬ O b ∧ b < w.heap.size ∧ n ≤ cap ∧ u = .slice (some ⟨b, off, none⟩) n cap ∧
      ∀ (i : Nat) (c : AV), cs[i]? = some c → ∃ x : Value, w.cell? ⟨b, off + i, none⟩ = some x ∧ Rp O w c x) := by
  cases h with
  | pl _ _ h =>
    cases h with
    | nla _ a => exact ⟨by simp, .inl ⟨rfl, rfl, a, rfl⟩⟩
    | sl _ _ _ b off cap f hO hb hn hl hc hr => exact ⟨hl, .inr ⟨b, off, cap, hO, hb, hn, rfl, fun i c h => ⟨f i, hc i c h, hr i c h⟩⟩⟩
theorem R.pt_inv {β : Bt} {O : Nat → Prop} {w : World} {i : Nat} {cs : List AV} {u : Value} (h : R β O w (.pt cs i) u) :
    ∃ b off, ¬ O b ∧ b < w.heap.size ∧ u = .pointer (some ⟨b, off + i, none⟩) ∧ ∀ (i : Nat) (c : AV), cs[i]? = some c → ∃ x : Value, w.cell? ⟨b, off + i, none⟩ = some x ∧ Rp O w c x := by
  cases h with
  | pl _ _ h =>
    cases h with
    | pt _ _ b off f hO hb hc hr => exact ⟨b, off, hO, hb, rfl, fun i c h => ⟨f i, hc i c h, hr i c h⟩⟩
theorem Rp.nil {O : Nat → Prop} {w : World} (sz : Nat) : Rp O w (.sl sz 0 []) (.slice none 0 0) := .nla sz none
theorem pick_family {cs : List AV} {p : Nat → AV → Value → Prop} (h : ∀ (i : Nat) (c : AV), cs[i]? = some c → ∃ x, p i c x) : ∃ f : Nat → Value, ∀ (i : Nat) (c : AV), cs[i]? = some c → p i c (f i) := by
  have h' : ∀ i : Nat, ∃ x : Value, ∀ c : AV, cs[i]? = some c → p i c x := fun i => by
    cases hc : cs[i]? with
    | none => exact ⟨undef, fun c h => by cases h⟩
    | some c => exact ⟨(h i c hc).choose, fun c' h' => by cases h'; exact (h i c hc).choose_spec⟩
  exact ⟨fun i => (h' i).choose, fun i c hc => (h' i).choose_spec c hc⟩
theorem R.mk_ag {β : Bt} {O : Nat → Prop} {w : World} {cs : List AV} {us : Array Value} (hs : us.size = cs.length) (h : ∀ (i : Nat) (c : AV), cs[i]? = some c → ∃ x : Value, us[i]? = some x ∧ R β O w c x) : R β O w (.ag cs) (.agg us) := by
  obtain ⟨f, hf⟩ := pick_family h
  exact .ag cs us f hs (fun i c hc => (hf i c hc).1) (fun i c hc => (hf i c hc).2)
theorem R.mk_tu {β : Bt} {O : Nat → Prop} {w : World} {cs : List AV} {us : Array Value} (hs : us.size = cs.length) (h : ∀ (i : Nat) (c : AV), cs[i]? = some c → ∃ x : Value, us[i]? = some x ∧ R β O w c x) : R β O w (.tu cs) (.tuple us) := by
  obtain ⟨f, hf⟩ := pick_family h
  exact .tu cs us f hs (fun i c hc => (hf i c hc).1) (fun i c hc => (hf i c hc).2)
theorem R.mk_fn {β : Bt} {O : Nat → Prop} {w : World} {fn : Fn} {cs ds : List AV} {us vs : Array Value} (hs : us.size = cs.length) (ht : vs.size = ds.length)
    (h : ∀ (i : Nat) (c : AV), cs[i]? = some c → ∃ x : Value, us[i]? = some x ∧ R β O w c x) (k : ∀ (i : Nat) (c : AV), ds[i]? = some c → ∃ x : Value, vs[i]? = some x ∧ R β O w c x) : R β O w (.fn fn cs ds) (.func fn us vs) := by
  obtain ⟨f, hf⟩ := pick_family h
  obtain ⟨g, hg⟩ := pick_family k
  exact .fn fn cs ds us vs f g hs ht (fun i c hc => (hf i c hc).1) (fun i c hc => (hf i c hc).2) (fun i c hc => (hg i c hc).1) (fun i c hc => (hg i c hc).2)
theorem Rp.mk_sl {O : Nat → Prop} {w : World} {sz n : Nat} {cs : List AV} {b off cap : Nat} (hO : ¬ O b) (hb : b < w.heap.size) (hn : n ≤ cap) (hl : cs.length = n * sz)
    (h : ∀ (i : Nat) (c : AV), cs[i]? = some c → ∃ x : Value, w.cell? ⟨b, off + i, none⟩ = some x ∧ Rp O w c x) : Rp O w (.sl sz n cs) (.slice (some ⟨b, off, none⟩) n cap) := by
  obtain ⟨f, hf⟩ := pick_family h
  exact .sl sz n cs b off cap f hO hb hn hl (fun i c hc => (hf i c hc).1) (fun i c hc => (hf i c hc).2)
theorem Rp.mk_pt {O : Nat → Prop} {w : World} {i : Nat} {cs : List AV} {b off : Nat} (hO : ¬ O b) (hb : b < w.heap.size)
    (h : ∀ (i : Nat) (c : AV), cs[i]? = some c → ∃ x : Value, w.cell? ⟨b, off + i, none⟩ = some x ∧ Rp O w c x) : Rp O w (.pt cs i) (.pointer (some ⟨b, off + i, none⟩)) := by
  obtain ⟨f, hf⟩ := pick_family h
  exact .pt cs i b off f hO hb (fun i c hc => (hf i c hc).1) (fun i c hc => (hf i c hc).2)
abbrev Hp := Nat → Option (List AV)
def RowAt (β : Bt) (O : Nat → Prop) (w : World) (b st : Nat) (c : List AV) : Prop :=
  ∃ (arr : Array Value) (e : TypeId), w.heap[b]? = some (Obj.cells arr e (0, 0)) ∧ st + c.length ≤ arr.size ∧ ∀ j x, c[j]? = some x → ∃ u, arr[st + j]? = some u ∧ R β O w x u
def Bk (B : Nat → Prop) (w : World) : Prop := ∀ b, B b → b < w.heap.size
def Ok (O : Nat → Prop) (w : World) : Prop := Bk O w ∧ Dr.inv O w
theorem Ok.tr {O O' : Nat → Prop} {w w' : World} (h : Ok O w) (t : Tr O w O' w') (hb : Bk O' w') : Ok O' w' := ⟨hb, Dr.keep t h.2⟩
structure Pr (B : Nat → Prop) (O : Nat → Prop) (w : World) (O' : Nat → Prop) (w' : World) : Prop where
  os : w'.os = w.os
  tape : w'.tape = w.tape
  output : w'.output = w.output
  drawn : dle w.drawn w'.drawn
  block : ∀ b, B b → w'.heap[b]? = w.heap[b]?
  own : ∀ b, B b → O b → O' b
  bk : Ok O w → Ok O' w'
theorem Pr.refl (B O : Nat → Prop) (w : World) : Pr B O w O w := ⟨rfl, rfl, rfl, .of (Nat.le_refl _), fun _ _ => rfl, fun _ _ h => h, fun h => h⟩
theorem Pr.trans {B O O' O'' : Nat → Prop} {w w' w'' : World} (h : Pr B O w O' w') (k : Pr B O' w' O'' w'') : Pr B O w O'' w'' :=
  ⟨k.os.trans h.os, k.tape.trans h.tape, k.output.trans h.output, h.drawn.trans k.drawn, fun b hb => (k.block b hb).trans (h.block b hb), fun b hb ho => k.own b hb (h.own b hb ho), fun hb => k.bk (h.bk hb)⟩
theorem Pr.mono {B B' O O' : Nat → Prop} {w w' : World} (h : Pr B O w O' w') (hb : ∀ b, B' b → B b) : Pr B' O w O' w' :=
  ⟨h.os, h.tape, h.output, h.drawn, fun b k => h.block b (hb b k), fun b k => h.own b (hb b k), h.bk⟩
theorem Bk.gr {B : Nat → Prop} {w w' : World} (h : Bk B w) (g : w.heap.size ≤ w'.heap.size) : Bk B w' := fun b hb => Nat.lt_of_lt_of_le (h b hb) g
theorem Ok.gr {O : Nat → Prop} {w w' : World} (h : Ok O w) (g : Gr w w') : Ok O w' := h.tr (.of_gr g) (h.1.gr g.size)
theorem Pr.of_gr {B O : Nat → Prop} {w w' : World} (h : Gr w w') (hb : Bk B w) : Pr B O w O w' :=
  ⟨h.os, h.tape, h.output, h.drawn, fun b k => h.block b (hb b k), fun _ _ h => h, fun k => k.gr h⟩
structure HC (B0 : Nat → Prop) (O0 : Nat → Prop) (β : Bt) (O : Nat → Prop) (H : Hp) (nx : Nat) (w : World) : Prop where
  row : ∀ k c, H k = some c → (β k = some none ∧ c = []) ∨ ∃ b st, β k = some (some (b, st)) ∧ O b ∧ ¬ B0 b ∧ RowAt β O w b st c
  inj : ∀ k k' b st st', H k ≠ none → H k' ≠ none → β k = some (some (b, st)) → β k' = some (some (b, st')) → k = k'
  own : Ok O w
  base : ∀ b, O0 b → O b ∧ B0 b
  free : ∀ k, nx ≤ k → H k = none
  fresh : ∀ k, nx ≤ k → β k = none
theorem RowAt.gr {β : Bt} {O : Nat → Prop} {w w' : World} {b st : Nat} {c : List AV} (g : Gr w w') (h : RowAt β O w b st c) : RowAt β O w' b st c := by
  obtain ⟨arr, e, h1, h2, h3⟩ := h
  have hlt : b < w.heap.size := by
    rcases Nat.lt_or_ge b w.heap.size with h' | h'
    · exact h'
    · simp [Array.getElem?_eq_none h'] at h1
  exact ⟨arr, e, by rw [g.block b hlt]; exact h1, h2, fun j x hj => let ⟨u, a, r⟩ := h3 j x hj; ⟨u, a, r.gr g⟩⟩
theorem HC.gr {B0 : Nat → Prop} {O0 : Nat → Prop} {β : Bt} {O : Nat → Prop} {H : Hp} {nx : Nat} {w w' : World} (g : Gr w w') (h : HC B0 O0 β O H nx w) : HC B0 O0 β O H nx w' := by
  refine ⟨fun k c hk => ?_, h.inj, h.own.gr g, h.base, h.free, h.fresh⟩
  rcases h.row k c hk with h1 | ⟨b, st, h1, h2, h3, h4⟩
  · exact .inl h1
  · exact .inr ⟨b, st, h1, h2, h3, h4.gr g⟩
theorem RowAt.cell {β : Bt} {O : Nat → Prop} {w : World} {b st : Nat} {c : List AV} (h : RowAt β O w b st c) {j : Nat} {x : AV} (hj : c[j]? = some x) : ∃ u, w.cell? ⟨b, st + j, none⟩ = some u ∧ R β O w x u := by
  obtain ⟨arr, e, h1, h2, h3⟩ := h
  obtain ⟨u, a, r⟩ := h3 j x hj
  exact ⟨u, by simp [World.cell?, h1, a], r⟩
theorem RowAt.lt {β : Bt} {O : Nat → Prop} {w : World} {b st : Nat} {c : List AV} (h : RowAt β O w b st c) : b < w.heap.size := by
  obtain ⟨arr, e, h1, h2, h3⟩ := h
  rcases Nat.lt_or_ge b w.heap.size with h' | h'
  · exact h'
  · simp [Array.getElem?_eq_none h'] at h1
def Rps (O : Nat → Prop) (w : World) (avs : List AV) (vs : Array Value) : Prop :=
  vs.size = avs.length ∧ ∀ (i : Nat) (a : AV), avs[i]? = some a → ∃ u : Value, vs[i]? = some u ∧ Rp O w a u
structure Rnd (B O : Nat → Prop) (w : World) (B' O' : Nat → Prop) (w' : World) : Prop where
  tr : Tr O w O' w'
  mine : ∀ b, b < w.heap.size → O b → ¬ B b → w'.heap[b]? = w.heap[b]? ∧ O' b ∧ ¬ B' b
  mono : ∀ b, B b → B' b
  less : ∀ b, b < w.heap.size → B' b → B b
  own : Bk O' w'
  bk : Bk B' w'
structure Yd where
  l : Nat
  ys : Nat → Option (List AV)
  I : Nat → (Nat → Prop) → (Nat → Prop) → World → Prop
  an : Nat → Bool := fun _ => true
structure YdOk (P : Program) (y : Yd) : Prop where
  stab : ∀ (t : Nat) (B O : Nat → Prop) (w : World) (O' : Nat → Prop) (w' : World), y.I t B O w → Tr O w O' w' → Pr B O w O' w' → y.I t B O' w'
  rnd : ∀ (t : Nat) (avs : List AV) (B O : Nat → Prop) (w : World) (vs : Array Value), y.ys t = some avs → Rps O w avs vs → y.I t B O w → Ok O w → Bk B w →
    ∃ (f : FuncId) (tmps : Array Value) (assign body : Code), (Instr.yield y.l vs).run P w = .ok (.round y.l f tmps assign body) w ∧
      RoundIn Fence.wide 0 P y.l f tmps assign body w (fun e w' => e = .returned (.bool (y.an t)) ∧ ∃ B' O', y.I (t + 1) B' O' w' ∧ Rnd B O w B' O' w')
end Go.Ab
set_option linter.unusedSimpArgs false
set_option linter.unusedVariables false
namespace Go.Ab
variable [Dr]
open Go.RowKit
inductive TK where
  | slice (e : TypeId)
  | array (n : Nat) (e : TypeId)
  | struct (fs : List (Nat × TypeId))
  | int (k : IntKind)
  | string
  | bool
  | pointer (e : TypeId)
  | iface
  | other
structure TI where
  size : Nat
  bytes : Nat
  agg : Bool
  zero : AV
  kind : TK
def ofV : Value → AV
  | .agg cs => .ag (cs.toList.map .v)
  | .tuple cs => .tu (cs.toList.map .v)
  | .func f a b => .fn f (a.toList.map .v) (b.toList.map .v)
  | x => .v x
def kindOk : TK → TypeDesc → Prop
  | .slice e, .slice e' => e = e'
  | .array n e, .array n' e' => n = n' ∧ e = e'
  | .struct fs, .struct gs => fs = gs.toList.map (fun f => (f.offset, f.type))
  | .int k, .int k' => k = k'
  | .string, .string => True
  | .bool, .bool => True
  | .pointer e, .pointer e' => e = e'
  | .iface, .interface _ => True
  | .other, _ => True
  | _, _ => False
structure TIok (P : Program) (t : TypeId) (ti : TI) : Prop where
  info : ∃ i, P.info? t = some i ∧ i.size = ti.size ∧ i.bytes = ti.bytes ∧ ∃ z, i.zero = some z ∧ ofV z = ti.zero ∧ z.cells.size = ti.size
  und : ∃ d, P.underlying t = some d ∧ kindOk ti.kind d ∧ ti.agg = (match d with | .struct _ | .array _ _ => true | _ => false)
abbrev Tab := Nat → Option TI
def TOk (P : Program) (T : Tab) : Prop := ∀ t ti, T t = some ti → TIok P t ti
section
variable {P : Program} {T : Tab} (hT : TOk P T) {t : TypeId} {ti : TI}
include hT
theorem run_size (h : T t = some ti) (w : World) : (sizeOf t).run P w = .ok ti.size w := by
  obtain ⟨⟨i, h1, h2, _⟩, _⟩ := hT t ti h
  simp [sizeOf, typeInfo, program, Sem.run, h1, h2]
theorem run_info (h : T t = some ti) (w : World) : ∃ i : TypeInfo, (typeInfo t).run P w = .ok i w ∧ i.size = ti.size ∧ i.bytes = ti.bytes := by
  obtain ⟨⟨i, h1, h2, h3, _⟩, _⟩ := hT t ti h
  exact ⟨i, by simp [typeInfo, program, Sem.run, h1], h2, h3⟩
theorem run_agg (h : T t = some ti) (w : World) : (isAgg t).run P w = .ok ti.agg w := by
  obtain ⟨_, ⟨d, h1, _, h3⟩⟩ := hT t ti h
  simp only [isAgg, underlying, program]
  simp [Sem.run, h1]
  cases d <;> simp [h3]
theorem run_und (h : T t = some ti) (w : World) : ∃ d, (underlying t).run P w = .ok d w ∧ kindOk ti.kind d := by
  obtain ⟨_, ⟨d, h1, h2, _⟩⟩ := hT t ti h
  exact ⟨d, by simp [underlying, program, Sem.run, h1], h2⟩
theorem run_und_slice {e : TypeId} (h : T t = some ti) (hk : ti.kind = .slice e) (w : World) : (underlying t).run P w = .ok (.slice e) w := by
  obtain ⟨d, h1, h2⟩ := run_und hT h w
  rw [hk] at h2
  cases d <;> simp only [kindOk] at h2
  rw [h1, h2]
theorem run_und_array {n : Nat} {e : TypeId} (h : T t = some ti) (hk : ti.kind = .array n e) (w : World) : (underlying t).run P w = .ok (.array n e) w := by
  obtain ⟨d, h1, h2⟩ := run_und hT h w
  rw [hk] at h2
  cases d <;> simp only [kindOk] at h2
  rw [h1, h2.1, h2.2]
theorem run_und_int {k : IntKind} (h : T t = some ti) (hk : ti.kind = .int k) (w : World) : (underlying t).run P w = .ok (.int k) w := by
  obtain ⟨d, h1, h2⟩ := run_und hT h w
  rw [hk] at h2
  cases d <;> simp only [kindOk] at h2
  rw [h1, h2]
theorem run_und_string (h : T t = some ti) (hk : ti.kind = .string) (w : World) : (underlying t).run P w = .ok .string w := by
  obtain ⟨d, h1, h2⟩ := run_und hT h w
  rw [hk] at h2
  cases d <;> simp only [kindOk] at h2
  rw [h1]
theorem run_und_bool (h : T t = some ti) (hk : ti.kind = .bool) (w : World) : (underlying t).run P w = .ok .bool w := by
  obtain ⟨d, h1, h2⟩ := run_und hT h w
  rw [hk] at h2
  cases d <;> simp only [kindOk] at h2
  rw [h1]
theorem run_und_ptr {e : TypeId} (h : T t = some ti) (hk : ti.kind = .pointer e) (w : World) : (underlying t).run P w = .ok (.pointer e) w := by
  obtain ⟨d, h1, h2⟩ := run_und hT h w
  rw [hk] at h2
  cases d <;> simp only [kindOk] at h2
  rw [h1, h2]
theorem run_und_struct {fs : List (Nat × TypeId)} (h : T t = some ti) (hk : ti.kind = .struct fs) (w : World) : ∃ gs : Array Field, (underlying t).run P w = .ok (.struct gs) w ∧ fs = gs.toList.map (fun f => (f.offset, f.type)) := by
  obtain ⟨d, h1, h2⟩ := run_und hT h w
  rw [hk] at h2
  cases d <;> simp only [kindOk] at h2
  exact ⟨_, h1, h2⟩
theorem run_zero (h : T t = some ti) (w : World) : ∃ z, (zeroValue t).run P w = .ok z w ∧ ofV z = ti.zero ∧ z.cells.size = ti.size := by
  obtain ⟨⟨i, h1, _, _, z, h4, h5, h6⟩, _⟩ := hT t ti h
  exact ⟨z, by simp [zeroValue, typeInfo, program, Sem.run, h1, h4], h5, h6⟩
end
theorem R.ofV {β : Bt} {O : Nat → Prop} {w : World} (x : Value) : R β O w (Ab.ofV x) x := by
  cases x <;> simp only [Ab.ofV]
  case agg cs => exact R.mk_ag (by simp) (fun i c hc => by simp at hc; obtain ⟨u, h1, h2⟩ := hc; exact ⟨u, h1, h2 ▸ R.vv u⟩)
  case tuple cs => exact R.mk_tu (by simp) (fun i c hc => by simp at hc; obtain ⟨u, h1, h2⟩ := hc; exact ⟨u, h1, h2 ▸ R.vv u⟩)
  case func f a b => exact R.mk_fn (by simp) (by simp) (fun i c hc => by simp at hc; obtain ⟨u, h1, h2⟩ := hc; exact ⟨u, h1, h2 ▸ R.vv u⟩) (fun i c hc => by simp at hc; obtain ⟨u, h1, h2⟩ := hc; exact ⟨u, h1, h2 ▸ R.vv u⟩)
  all_goals exact R.vv _
def AV.cells? : AV → Option (List AV)
  | .ag cs => some cs
  | .v (.agg _) => none
  | .any => none
  | a => some [a]
theorem R.cells {β : Bt} {O : Nat → Prop} {w : World} {a : AV} {u : Value} {cs : List AV} (h : R β O w a u) (hc : a.cells? = some cs) :
    u.cells.size = cs.length ∧ ∀ (i : Nat) (c : AV), cs[i]? = some c → ∃ x : Value, u.cells[i]? = some x ∧ R β O w c x := by
  have one : ∀ (u : Value), R β O w a u → u.cells = #[u] → cs = [a] → u.cells.size = cs.length ∧ ∀ (i : Nat) (c : AV), cs[i]? = some c → ∃ x : Value, u.cells[i]? = some x ∧ R β O w c x := by
    intro u h e1 e2
    subst e2
    refine ⟨by simp [e1], fun i c hi => ?_⟩
    cases i with
    | zero => simp at hi; subst hi; exact ⟨u, by simp [e1], h⟩
    | succ i => simp at hi
  cases a with
  | v x =>
    have := h.v_inv
    subst this
    cases u <;> simp only [AV.cells?, Option.some.injEq, reduceCtorEq] at hc <;> exact one _ h rfl hc.symm
  | any => simp [AV.cells?] at hc
  | ag ds =>
    simp only [AV.cells?, Option.some.injEq] at hc
    subst hc
    obtain ⟨us, rfl, h1, h2⟩ := h.ag_inv
    exact ⟨h1, h2⟩
  | sl sz n ds =>
    simp only [AV.cells?, Option.some.injEq] at hc
    obtain ⟨_, h | ⟨b, off, cap, _, _, _, h, _⟩⟩ := h.sl_inv
    · obtain ⟨_, _, _, rfl⟩ := h; exact one _ ‹_› rfl hc.symm
    · subst h; exact one _ ‹_› rfl hc.symm
  | pt ds i =>
    simp only [AV.cells?, Option.some.injEq] at hc
    obtain ⟨b, off, _, _, rfl, _⟩ := h.pt_inv
    exact one _ ‹_› rfl hc.symm
  | tu ds =>
    simp only [AV.cells?, Option.some.injEq] at hc
    obtain ⟨us, rfl, _, _⟩ := h.tu_inv
    exact one _ ‹_› rfl hc.symm
  | fn f ds es =>
    simp only [AV.cells?, Option.some.injEq] at hc
    obtain ⟨us, vs, rfl, _⟩ := h.fn_inv
    exact one _ ‹_› rfl hc.symm
  | ic t x =>
    simp only [AV.cells?, Option.some.injEq] at hc
    obtain ⟨y, rfl, _⟩ := h.ic_inv
    exact one _ ‹_› rfl hc.symm
  | lp k off =>
    simp only [AV.cells?, Option.some.injEq] at hc
    obtain ⟨b, st, _, rfl⟩ := h.lp_inv
    exact one _ ‹_› rfl hc.symm
  | ls k off sz n =>
    simp only [AV.cells?, Option.some.injEq] at hc
    rcases h.ls_inv with ⟨_, _, _, rfl, _⟩ | ⟨b, st, cap, _, _, rfl, _⟩
    · exact one _ ‹_› rfl hc.symm
    · exact one _ ‹_› rfl hc.symm
  | qt ds i =>
    simp only [AV.cells?, Option.some.injEq] at hc
    obtain ⟨b, off, _, _, rfl, _⟩ := h.qt_inv
    exact one _ ‹_› rfl hc.symm
def StillOk (P : Program) (o : Oper) (ge : Operand → AV) (H : Hp) (nx : Nat) (r : AV) : Prop :=
  ∀ (B0 : Nat → Prop) (O0 : Nat → Prop) (β : Bt) (O : Nat → Prop) (w : World) (ev : Operand → Value), HC B0 O0 β O H nx w → Bk B0 w →
    (∀ x, x ∈ o.op.operands → R β O w (ge x) (ev x)) →
    match (execOp ev o).run P w with
    | .ok (.value u) w' => Gr w w' ∧ R β O w' r u
    | .ok .skip w' => Gr w w' ∧ R β O w' r undef
    | .ok (.enter f args) w' => w' = w ∧ Calls P f args w (fun e w'' => ∃ u, e = .returned u ∧ Gr w w'' ∧ R β O w'' r u)
    | _ => False
theorem StillOk.pure {P : Program} {o : Oper} {ge : Operand → AV} {H : Hp} {nx : Nat} {r : AV}
    (h : ∀ (B0 : Nat → Prop) (O0 : Nat → Prop) (β : Bt) (O : Nat → Prop) (w : World) (ev : Operand → Value), HC B0 O0 β O H nx w → Bk B0 w →
      (∀ x, x ∈ o.op.operands → R β O w (ge x) (ev x)) → ∃ u, (execOp ev o).run P w = .ok (.value u) w ∧ R β O w r u) : StillOk P o ge H nx r := by
  intro B0 O0 β O w ev hc hB hx
  obtain ⟨u, h1, h2⟩ := h B0 O0 β O w ev hc hB hx
  rw [h1]
  exact ⟨Gr.refl _, h2⟩
theorem addr_add (b off n : Nat) : (⟨b, off, none⟩ : Addr).add n = ⟨b, off + n, none⟩ := by
  unfold Addr.add
  split <;> simp_all
def Callable (P : Program) (f : FuncId) : Prop := ∀ (args : Array Value) (w : World), (callFunc f args).run P w = .ok (.enter f args) w
def Rs (β : Bt) (O : Nat → Prop) (w : World) (avs : List AV) (vs : Array Value) : Prop :=
  vs.size = avs.length ∧ ∀ (i : Nat) (a : AV), avs[i]? = some a → ∃ u : Value, vs[i]? = some u ∧ R β O w a u
def CallOk (P : Program) (f : FuncId) (H : Hp) (nx : Nat) (avs : List AV) (r : AV) : Prop :=
  Callable P f ∧ ∀ (B0 : Nat → Prop) (O0 : Nat → Prop) (β : Bt) (O : Nat → Prop) (w : World) (vs : Array Value), HC B0 O0 β O H nx w → Bk B0 w → Rs β O w avs vs →
    Calls P f vs w (fun e w' => ∃ u, e = .returned u ∧ Gr w w' ∧ R β O w' r u)
def callS (P : Program) (f : FuncId) (H : Hp) (nx : Nat) (avs : List AV) (K : AV → Prop) : Prop := ∃ r, CallOk P f H nx avs r ∧ K r
def bsplit (c : Bool) (F : Bool → Prop) : Prop := (c = true → F true) ∧ (c = false → F false)
@[congr] theorem bsplit_congr {c c' : Bool} {F : Bool → Prop} (h : c = c') : bsplit c F = bsplit c' F := by rw [h]
theorem bsplit_true (F : Bool → Prop) : bsplit true F = F true := by simp [bsplit]
theorem bsplit_false (F : Bool → Prop) : bsplit false F = F false := by simp [bsplit]
theorem bsplit_of {c : Bool} {F : Bool → Prop} (h : bsplit c F) : F c := by cases c; exact h.2 rfl; exact h.1 rfl
@[congr] theorem callS_congr {P : Program} {f : FuncId} {H : Hp} {nx : Nat} {avs avs' : List AV} {K : AV → Prop} (h : avs = avs') : callS P f H nx avs K = callS P f H nx avs' K := by rw [h]
end Go.Ab
set_option linter.unusedSimpArgs false
set_option linter.unusedVariables false
namespace Go.Ab
variable [Dr]
open Go.RowKit
structure Ev where
  P : Program
  T : Tab
  M : TypeId → String → Option FuncId
  Q : TypeId → Option Nat
  S : TypeId → Option (List Bool) := fun _ => none
  ro : Option Nat := none
  Y : Option Yd := none
def Ev.inR (E : Ev) (l : Nat) : Ev := { E with ro := some l }
def Ev.withY (E : Ev) (y : Yd) : Ev := { E with Y := some y }
theorem inR_P (E : Ev) (l : Nat) : (E.inR l).P = E.P := rfl
theorem inR_T (E : Ev) (l : Nat) : (E.inR l).T = E.T := rfl
theorem inR_M (E : Ev) (l : Nat) : (E.inR l).M = E.M := rfl
theorem inR_Q (E : Ev) (l : Nat) : (E.inR l).Q = E.Q := rfl
theorem inR_S (E : Ev) (l : Nat) : (E.inR l).S = E.S := rfl
theorem inR_Y (E : Ev) (l : Nat) : (E.inR l).Y = E.Y := rfl
theorem withY_P (E : Ev) (y : Yd) : (E.withY y).P = E.P := rfl
theorem withY_T (E : Ev) (y : Yd) : (E.withY y).T = E.T := rfl
theorem withY_M (E : Ev) (y : Yd) : (E.withY y).M = E.M := rfl
theorem withY_Q (E : Ev) (y : Yd) : (E.withY y).Q = E.Q := rfl
theorem withY_S (E : Ev) (y : Yd) : (E.withY y).S = E.S := rfl
theorem withY_Y (E : Ev) (y : Yd) : (E.withY y).Y = some y := rfl
def intCells (as : List Int) : Array Value := (as.map (Value.int .i64)).toArray
inductive SV where
  | i (n : Int)
  | s (b : ByteArray)
def SV.val : SV → Value
  | .i n => .int .i64 n
  | .s b => .string b
def SV.isS : SV → Bool
  | .i _ => false
  | .s _ => true
def svEq : SV → SV → Bool
  | .i a, .i b => a == b
  | .s a, .s b => a.toList == b.toList
  | _, _ => false
def svEqL : List SV → List SV → Bool
  | [], [] => true
  | a :: l, b :: m => svEq a b && svEqL l m
  | _, _ => false
def toSVs? : List AV → Option (List SV)
  | [] => some []
  | a :: l => match a with
    | .v (.int .i64 n) => match toSVs? l with
      | some ns => some (.i n :: ns)
      | none => none
    | .v (.string b) => match toSVs? l with
      | some ns => some (.s b :: ns)
      | none => none
    | _ => none
theorem toSVs_some : ∀ {cs : List AV} {as : List SV}, toSVs? cs = some as → cs = as.map (fun n => AV.v n.val)
  | [], as, h => by simp [toSVs?] at h; subst h; rfl
  | a :: l, as, h => by
    unfold toSVs? at h
    split at h
    · split at h
      · rename_i ns hns
        cases h
        rw [toSVs_some hns]; rfl
      · cases h
    · split at h
      · rename_i ns hns
        cases h
        rw [toSVs_some hns]; rfl
      · cases h
    · cases h
def svCells (as : List SV) : Array Value := (as.map SV.val).toArray
theorem sv_cons {as : List SV} {b : Bool} {ks : List Bool} (h : as.map SV.isS = b :: ks) : ∃ a l, as = a :: l ∧ a.isS = b ∧ l.map SV.isS = ks := by
  cases as with
  | nil => cases h
  | cons a l => simp only [List.map_cons, List.cons.injEq] at h; exact ⟨a, l, rfl, h.1, h.2⟩
theorem sv_nil {as : List SV} (h : as.map SV.isS = []) : as = [] := by simpa using h
theorem sv_s {a : SV} (h : a.isS = true) : ∃ b, a = .s b := by cases a with
  | i n => cases h
  | s b => exact ⟨b, rfl⟩
structure EvOk (E : Ev) : Prop where
  T : TOk E.P E.T
  M : ∀ t name f, E.M t name = some f → ∀ v w, (method (E.P.types.size + Made.depth) t v name).run E.P w = .ok (f, v) w
  Q : ∀ t n, E.Q t = some n → ∀ (w : World) (op : BinOp) (x y : Operand) (as bs : List Int), as.length = n → bs.length = n →
    (eqGuard op t x y (.agg (intCells as)) (.agg (intCells bs))).run E.P w = .ok () w ∧
    (binOp .eql t (.agg (intCells as)) (.agg (intCells bs))).run E.P w = .ok (.bool (as == bs)) w ∧
    (binOp .neq t (.agg (intCells as)) (.agg (intCells bs))).run E.P w = .ok (.bool (!(as == bs))) w
  S : ∀ t ks, E.S t = some ks → ∀ (w : World) (op : BinOp) (x y : Operand) (as bs : List SV), as.map SV.isS = ks → bs.map SV.isS = ks →
    (eqGuard op t x y (.agg (svCells as)) (.agg (svCells bs))).run E.P w = .ok () w ∧
    (binOp .eql t (.agg (svCells as)) (.agg (svCells bs))).run E.P w = .ok (.bool (svEqL as bs)) w ∧
    (binOp .neq t (.agg (svCells as)) (.agg (svCells bs))).run E.P w = .ok (.bool (!(svEqL as bs))) w
  mix : E.P.follows .mixedOrders = true
theorem EvOk.inR {E : Ev} (h : EvOk E) (l : Nat) : EvOk (E.inR l) := ⟨h.T, h.M, h.Q, h.S, h.mix⟩
theorem EvOk.withY {E : Ev} (h : EvOk E) (y : Yd) : EvOk (E.withY y) := ⟨h.T, h.M, h.Q, h.S, h.mix⟩
def bopI (op : BinOp) (k : IntKind) (a b : Int) (K : AV → Prop) : Prop :=
  match op with
  | .add => K (.v (.int k (k.wrap (a + b))))
  | .sub => K (.v (.int k (k.wrap (a - b))))
  | .mul => K (.v (.int k (k.wrap (a * b))))
  | .quo => b ≠ 0 ∧ K (.v (.int k (k.wrap (a.tdiv b))))
  | .rem => b ≠ 0 ∧ K (.v (.int k (a.tmod b)))
  | .eql => K (.v (.bool (a == b)))
  | .neq => K (.v (.bool (a != b)))
  | .lss => K (.v (.bool (decide (a < b))))
  | .leq => K (.v (.bool (decide (a ≤ b))))
  | .gtr => K (.v (.bool (decide (b < a))))
  | .geq => K (.v (.bool (decide (b ≤ a))))
  | _ => False
def shrA (a b : Int) (n : Nat) : Int := a.fdiv (2 ^ min b.toNat n)
theorem shrA_one (a : Int) : shrA a 1 64 = a / 2 := by
  unfold shrA
  rw [show min (1 : Int).toNat 64 = 1 from rfl]
  exact Int.fdiv_eq_ediv_of_nonneg a (by decide)
def bopN (op : BinOp) (k k' : IntKind) (a b : Int) (K : AV → Prop) : Prop :=
  match op with
  | .shr => 0 ≤ b ∧ K (.v (.int k (shrA a b k.bits)))
  | op => k = k' ∧ bopI op k a b K
def bopS (op : BinOp) (a b : ByteArray) (K : AV → Prop) : Prop :=
  match op with
  | .add => a.size + b.size ≤ 9223372036854775807 ∧ K (.v (.string (a ++ b)))
  | .eql => K (.v (.bool (a.toList == b.toList)))
  | .neq => K (.v (.bool (!(a.toList == b.toList))))
  | .lss => K (.v (.bool (Op.bytesLess a.toList b.toList)))
  | .leq => K (.v (.bool (Op.bytesLess a.toList b.toList || a.toList == b.toList)))
  | .gtr => K (.v (.bool (!(Op.bytesLess a.toList b.toList || a.toList == b.toList))))
  | .geq => K (.v (.bool (!Op.bytesLess a.toList b.toList)))
  | _ => False
def toInts? : List AV → Option (List Int)
  | [] => some []
  | a :: l => match a with
    | .v (.int .i64 n) => match toInts? l with
      | some ns => some (n :: ns)
      | none => none
    | _ => none
def isNilP (a : AV) : Option Bool :=
  match a with
  | .v (.pointer none) => some true
  | .lp _ _ => some false
  | .pt _ _ => some false
  | _ => none
theorem isNilP_ok {a : AV} {b : Bool} (h : isNilP a = some b) {β : Bt} {O : Nat → Prop} {w : World} {u : Value} (hr : R β O w a u) : ∃ q, u = .pointer q ∧ q.isNone = b := by
  unfold isNilP at h
  split at h
  · cases h; exact ⟨none, hr.v_inv, rfl⟩
  · cases h; obtain ⟨b, st, _, rfl⟩ := hr.lp_inv; exact ⟨_, rfl, rfl⟩
  · cases h; obtain ⟨b, off, _, _, rfl, _⟩ := hr.pt_inv; exact ⟨_, rfl, rfl⟩
  · cases h
def nilC : Operand → Bool
  | .const v => (match v with | .nilIface => true | _ => false)
  | _ => false
def bop (E : Ev) (op : BinOp) (t : TypeId) (x y : AV) (yc : Bool) (K : AV → Prop) : Prop :=
  match x, y with
  | .v (.int k a), .v (.int k' b) => bopN op k k' a b K
  | .v (.string a), .v (.string b) => bopS op a b K
  | .v (.bool a), .v (.bool b) => match E.T t with
    | some ti => match ti.kind, op with
      | .bool, .eql => K (.v (.bool (a == b)))
      | .bool, .neq => K (.v (.bool (a != b)))
      | _, _ => False
    | none => False
  | .ag cs, .ag ds => match E.Q t, toInts? cs, toInts? ds with
    | some n, some as, some bs => as.length = n ∧ bs.length = n ∧ match op with
      | .eql => K (.v (.bool (as == bs)))
      | .neq => K (.v (.bool (!(as == bs))))
      | _ => False
    | _, _, _ => match E.S t, toSVs? cs, toSVs? ds with
      | some ks, some as, some bs => as.map SV.isS = ks ∧ bs.map SV.isS = ks ∧ match op with
        | .eql => K (.v (.bool (svEqL as bs)))
        | .neq => K (.v (.bool (!svEqL as bs)))
        | _ => False
      | _, _, _ => False
  | .lp k i, .lp k' i' => k = k' ∧ match E.T t with
    | some ti => match ti.kind with
      | .pointer e => match E.T e with
        | some ei => ei.size ≠ 0 ∧ match op with
          | .eql => K (.v (.bool (i == i')))
          | .neq => K (.v (.bool (!(i == i'))))
          | _ => False
        | none => False
      | _ => False
    | none => False
  | .ic _ _, .v .nilIface => match E.T t with
    | some ti => match ti.kind, op with
      | .iface, .eql => K (.v (.bool false))
      | .iface, .neq => K (.v (.bool true))
      | _, _ => False
    | none => False
  | .v .nilIface, .v .nilIface => yc = true ∧ match E.T t with
    | some ti => match ti.kind, op with
      | .iface, .eql => K (.v (.bool true))
      | .iface, .neq => K (.v (.bool false))
      | _, _ => False
    | none => False
  | x, .v (.pointer none) => match isNilP x, E.T t with
    | some b, some ti => match ti.kind, op with
      | .pointer _, .eql => K (.v (.bool b))
      | .pointer _, .neq => K (.v (.bool (!b)))
      | _, _ => False
    | _, _ => False
  | _, _ => False
theorem toInts_some : ∀ {cs : List AV} {as : List Int}, toInts? cs = some as → cs = as.map (fun n => AV.v (.int .i64 n))
  | [], as, h => by simp [toInts?] at h; subst h; rfl
  | a :: l, as, h => by
    unfold toInts? at h
    split at h
    · split at h
      · rename_i ns hns
        cases h
        rw [toInts_some hns]; rfl
      · cases h
    · cases h
section
variable {E : Ev} {o : Oper} {ge : Operand → AV} {H : Hp} {nx : Nat} {K : AV → Prop}
theorem run_guard_int (P : Program) (w : World) (op : BinOp) (t : TypeId) (x y : Operand) (k k' : IntKind) (a b : Int) : (eqGuard op t x y (.int k a) (.int k' b)).run P w = .ok () w := by
  cases op <;> simp [eqGuard]
theorem run_guard_string (P : Program) (w : World) (op : BinOp) (t : TypeId) (x y : Operand) (a b : ByteArray) : (eqGuard op t x y (.string a) (.string b)).run P w = .ok () w := by
  cases op <;> simp [eqGuard]
theorem run_guard_bool (P : Program) (w : World) (op : BinOp) (t : TypeId) (x y : Operand) (a b : Bool) : (eqGuard op t x y (.bool a) (.bool b)).run P w = .ok () w := by
  cases op <;> simp [eqGuard]
def SameV (E : Ev) (o : Oper) (ge : Operand → AV) (H : Hp) (nx : Nat) (r : AV) : Prop :=
  ∀ (B0 : Nat → Prop) (O0 : Nat → Prop) (β : Bt) (O : Nat → Prop) (w : World) (ev : Operand → Value), HC B0 O0 β O H nx w → Bk B0 w →
    (∀ x, x ∈ o.op.operands → R β O w (ge x) (ev x)) → ∃ u, (execOp ev o).run E.P w = .ok (.value u) w ∧ R β O w r u
theorem SameV.ok {r : AV} (h : SameV E o ge H nx r) : StillOk E.P o ge H nx r := StillOk.pure h
theorem bop_ok {op : BinOp} {t t' : TypeId} {x y : Operand} (hE : EvOk E) (ho : o.op = .binOp op t x y t') (h : bop E op t (ge x) (ge y) (nilC y) K) : ∃ r, StillOk E.P o ge H nx r ∧ K r := by
  have key : ∀ (a b : Value) (r : AV) (v : Value), ge x = .v a → ge y = .v b → r = .v v → (∀ w, (do eqGuard op t x y a b; binOp op t a b : Sem Value).run E.P w = .ok v w) → StillOk E.P o ge H nx r := by
    intro a b r v hx hy hr hrun
    refine SameV.ok fun B0 O0 β O w ev hc hB hop => ?_
    have h1 : ev x = a := (hx ▸ hop x (by simp [ho, Op.operands])).v_inv
    have h2 : ev y = b := (hy ▸ hop y (by simp [ho, Op.operands])).v_inv
    refine ⟨v, ?_, hr ▸ R.vv v⟩
    have := hrun w
    simp only [execOp, ho, h1, h2]
    simp only [Sem.run_bind] at this ⊢
    simp [this]
  unfold bop at h
  split at h
  · rename_i k a k' b hx hy
    by_cases hsh : op = .shr
    · subst hsh
      obtain ⟨h0, h⟩ : 0 ≤ b ∧ K (.v (.int k (shrA a b k.bits))) := h
      exact ⟨_, key _ _ _ _ hx hy rfl (fun w => by simp [run_guard_int, binOp, Op.shift, shrA, show ¬ b < 0 by omega]), h⟩
    replace h : k = k' ∧ bopI op k a b K := by
      cases op <;> first | exact h | exact absurd rfl hsh
    obtain ⟨rfl, h⟩ := h
    have hg := fun w => run_guard_int E.P w op t x y k k a b
    cases op <;> simp only [bopI] at h
    case add => exact ⟨_, key _ _ _ _ hx hy rfl (fun w => by simp [hg, binOp, Op.intArith]), h⟩
    case sub => exact ⟨_, key _ _ _ _ hx hy rfl (fun w => by simp [hg, binOp, Op.intArith]), h⟩
    case mul => exact ⟨_, key _ _ _ _ hx hy rfl (fun w => by simp [hg, binOp, Op.intArith]), h⟩
    case quo => exact ⟨_, key _ _ _ _ hx hy rfl (fun w => by simp [hg, binOp, Op.intDiv, h.1]), h.2⟩
    case rem => exact ⟨_, key _ _ _ _ hx hy rfl (fun w => by simp [hg, binOp, Op.intDiv, h.1]), h.2⟩
    case eql => exact ⟨_, key _ _ _ _ hx hy rfl (fun w => by simp [hg, binOp, Op.intCmp]), h⟩
    case neq => exact ⟨_, key _ _ _ _ hx hy rfl (fun w => by simp [hg, binOp, Op.intCmp]), h⟩
    case lss => exact ⟨_, key _ _ _ _ hx hy rfl (fun w => by simp [hg, binOp, Op.intCmp]), h⟩
    case leq => exact ⟨_, key _ _ _ _ hx hy rfl (fun w => by simp [hg, binOp, Op.intCmp]), h⟩
    case gtr => exact ⟨_, key _ _ _ _ hx hy rfl (fun w => by simp [hg, binOp, Op.intCmp]), h⟩
    case geq => exact ⟨_, key _ _ _ _ hx hy rfl (fun w => by simp [hg, binOp, Op.intCmp]), h⟩
  · rename_i a b hx hy
    have hg := fun w => run_guard_string E.P w op t x y a b
    cases op <;> simp only [bopS] at h
    case add =>
      have hle : ¬ (((a.size + b.size : Nat) : Int) > IntKind.i64.max) := by simp [IntKind.max, IntKind.signed, IntKind.bits]; omega
      exact ⟨_, key _ _ _ _ hx hy rfl (fun w => by simp only [Sem.run_bind, hg, Result.andThen_ok, binOp, Op.stringOp, if_neg hle, Sem.run_pure]), h.2⟩
    case eql => exact ⟨_, key _ _ _ _ hx hy rfl (fun w => by simp [hg, binOp, Op.stringOp]), h⟩
    case neq => exact ⟨_, key _ _ _ _ hx hy rfl (fun w => by simp [hg, binOp, Op.stringOp]), h⟩
    case lss => exact ⟨_, key _ _ _ _ hx hy rfl (fun w => by simp [hg, binOp, Op.stringOp]), h⟩
    case leq => exact ⟨_, key _ _ _ _ hx hy rfl (fun w => by simp [hg, binOp, Op.stringOp]), h⟩
    case gtr => exact ⟨_, key _ _ _ _ hx hy rfl (fun w => by simp [hg, binOp, Op.stringOp]), h⟩
    case geq => exact ⟨_, key _ _ _ _ hx hy rfl (fun w => by simp [hg, binOp, Op.stringOp]), h⟩
  · rename_i a b hx hy
    have hg := fun w => run_guard_bool E.P w op t x y a b
    split at h
    · rename_i ti ht
      split at h
      · rename_i hk
        have hu := fun w => run_und_bool hE.T ht hk w
        exact ⟨_, key _ _ _ _ hx hy rfl (fun w => by
          rw [Sem.run_bind, hg, Result.andThen_ok]
          show ((do pure (Value.bool (← Op.equalIn 10000 t (.bool a) (.bool b))) : Sem Value).run E.P w) = _
          rw [Sem.run_bind, Op.equalIn, Sem.run_bind, hu]
          simp), h⟩
      · rename_i hk
        have hu := fun w => run_und_bool hE.T ht hk w
        exact ⟨_, key _ _ _ _ hx hy rfl (fun w => by
          rw [Sem.run_bind, hg, Result.andThen_ok]
          show ((do pure (Value.bool (!(← Op.equalIn 10000 t (.bool a) (.bool b)))) : Sem Value).run E.P w) = _
          rw [Sem.run_bind, Op.equalIn, Sem.run_bind, hu]
          simp [bne]), h⟩
      · exact h.elim
    · exact h.elim
  · rename_i cs ds hx hy
    split at h
    · rename_i n as bs hq hc hd
      obtain ⟨h1, h2, h⟩ := h
      have e1 := toInts_some hc
      have e2 := toInts_some hd
      have cells : ∀ (l : List Int) {β : Bt} {O : Nat → Prop} {w : World} {u : Value}, R β O w (.ag (l.map (fun n => AV.v (.int .i64 n)))) u → u = .agg (intCells l) := by
        intro l β O w u hr
        obtain ⟨us, rfl, hs, hu⟩ := hr.ag_inv
        congr 1
        apply Array.ext_getElem?
        intro i
        rcases Nat.lt_or_ge i l.length with hi | hi
        · obtain ⟨y, h1, h2⟩ := hu i (AV.v (.int .i64 l[i])) (by simp [hi])
          rw [h1, h2.v_inv]
          simp [intCells, hi]
        · rw [Array.getElem?_eq_none (by simp at hs; omega), Array.getElem?_eq_none (by simp [intCells]; omega)]
      have go : ∀ (v : Value), (∀ w, (do eqGuard op t x y (.agg (intCells as)) (.agg (intCells bs)); binOp op t (.agg (intCells as)) (.agg (intCells bs)) : Sem Value).run E.P w = .ok v w) → StillOk E.P o ge H nx (.v v) := by
        intro v hrun
        refine SameV.ok fun B0 O0 β O w ev hc hB hop => ?_
        have g1 : ev x = .agg (intCells as) := cells as (β := β) (O := O) (w := w) (by rw [← e1, ← hx]; exact hop x (by simp [ho, Op.operands]))
        have g2 : ev y = .agg (intCells bs) := cells bs (β := β) (O := O) (w := w) (by rw [← e2, ← hy]; exact hop y (by simp [ho, Op.operands]))
        refine ⟨v, ?_, R.vv v⟩
        have := hrun w
        simp only [execOp, ho, g1, g2]
        simp only [Sem.run_bind] at this ⊢
        simp [this]
      have q := fun w => hE.Q t n hq w op x y as bs h1 h2
      split at h
      · exact ⟨_, go _ (fun w => by simp only [Sem.run_bind, (q w).1, Result.andThen_ok, (q w).2.1]), h⟩
      · exact ⟨_, go _ (fun w => by simp only [Sem.run_bind, (q w).1, Result.andThen_ok, (q w).2.2]), h⟩
      · exact h.elim
    · split at h
      · rename_i ks as bs hq hc hd
        obtain ⟨h1, h2, h⟩ := h
        have e1 := toSVs_some hc
        have e2 := toSVs_some hd
        have cells : ∀ (l : List SV) {β : Bt} {O : Nat → Prop} {w : World} {u : Value}, R β O w (.ag (l.map (fun n => AV.v n.val))) u → u = .agg (svCells l) := by
          intro l β O w u hr
          obtain ⟨us, rfl, hs, hu⟩ := hr.ag_inv
          congr 1
          apply Array.ext_getElem?
          intro i
          rcases Nat.lt_or_ge i l.length with hi | hi
          · obtain ⟨y, h1, h2⟩ := hu i (AV.v l[i].val) (by simp [hi])
            rw [h1, h2.v_inv]
            simp [svCells, hi]
          · rw [Array.getElem?_eq_none (by simp at hs; omega), Array.getElem?_eq_none (by simp [svCells]; omega)]
        have go : ∀ (v : Value), (∀ w, (do eqGuard op t x y (.agg (svCells as)) (.agg (svCells bs)); binOp op t (.agg (svCells as)) (.agg (svCells bs)) : Sem Value).run E.P w = .ok v w) → StillOk E.P o ge H nx (.v v) := by
          intro v hrun
          refine SameV.ok fun B0 O0 β O w ev hc hB hop => ?_
          have g1 : ev x = .agg (svCells as) := cells as (β := β) (O := O) (w := w) (by rw [← e1, ← hx]; exact hop x (by simp [ho, Op.operands]))
          have g2 : ev y = .agg (svCells bs) := cells bs (β := β) (O := O) (w := w) (by rw [← e2, ← hy]; exact hop y (by simp [ho, Op.operands]))
          refine ⟨v, ?_, R.vv v⟩
          have := hrun w
          simp only [execOp, ho, g1, g2]
          simp only [Sem.run_bind] at this ⊢
          simp [this]
        have q := fun w => hE.S t ks hq w op x y as bs h1 h2
        split at h
        · exact ⟨_, go _ (fun w => by simp only [Sem.run_bind, (q w).1, Result.andThen_ok, (q w).2.1]), h⟩
        · exact ⟨_, go _ (fun w => by simp only [Sem.run_bind, (q w).1, Result.andThen_ok, (q w).2.2]), h⟩
        · exact h.elim
      · exact h.elim
  · rename_i k i k' i' hx hy
    obtain ⟨rfl, h⟩ := h
    split at h
    · rename_i ti ht
      split at h
      · rename_i e hk
        split at h
        · rename_i ei he
          obtain ⟨hsz, h⟩ := h
          have hu := fun w => run_und_ptr hE.T ht hk w
          have hs := fun w => run_size hE.T he w
          have go : ∀ (v : Value), (∀ (b st : Nat) (w : World), (do eqGuard op t x y (.pointer (some ⟨b, st + i, none⟩)) (.pointer (some ⟨b, st + i', none⟩)); binOp op t (.pointer (some ⟨b, st + i, none⟩)) (.pointer (some ⟨b, st + i', none⟩)) : Sem Value).run E.P w = .ok v w) → StillOk E.P o ge H nx (.v v) := by
            intro v hrun
            refine SameV.ok fun B0 O0 β O w ev hc hB hop => ?_
            obtain ⟨b, st, g1, g2⟩ := (hx ▸ hop x (by simp [ho, Op.operands])).lp_inv
            obtain ⟨b', st', g3, g4⟩ := (hy ▸ hop y (by simp [ho, Op.operands])).lp_inv
            rw [g1] at g3
            cases g3
            refine ⟨v, ?_, R.vv v⟩
            have := hrun b st w
            simp only [execOp, ho, g2, g4]
            simp only [Sem.run_bind] at this ⊢
            simp [this]
          have heq : ∀ (b st : Nat), ((⟨b, st + i, none⟩ : Addr) == ⟨b, st + i', none⟩) = (i == i') := fun b st => by
            rw [Bool.eq_iff_iff, beq_iff_eq, beq_iff_eq]
            constructor
            · intro h
              have := congrArg Addr.off h
              simp at this
              exact this
            · intro h; rw [h]
          split at h
          · refine ⟨_, go _ (fun b st w => ?_), h⟩
            have hg : (eqGuard .eql t x y (.pointer (some ⟨b, st + i, none⟩)) (.pointer (some ⟨b, st + i', none⟩))).run E.P w = .ok () w := by simp [eqGuard]
            rw [Sem.run_bind, hg, Result.andThen_ok]
            show ((do pure (Value.bool (← Op.equalIn 10000 t (.pointer (some ⟨b, st + i, none⟩)) (.pointer (some ⟨b, st + i', none⟩)))) : Sem Value).run E.P w) = _
            rw [Sem.run_bind, Op.equalIn, Sem.run_bind, hu]
            simp [hs, hsz, sameAddr, heq]
          · refine ⟨_, go _ (fun b st w => ?_), h⟩
            have hg : (eqGuard .neq t x y (.pointer (some ⟨b, st + i, none⟩)) (.pointer (some ⟨b, st + i', none⟩))).run E.P w = .ok () w := by simp [eqGuard]
            rw [Sem.run_bind, hg, Result.andThen_ok]
            show ((do pure (Value.bool (!(← Op.equalIn 10000 t (.pointer (some ⟨b, st + i, none⟩)) (.pointer (some ⟨b, st + i', none⟩))))) : Sem Value).run E.P w) = _
            rw [Sem.run_bind, Op.equalIn, Sem.run_bind, hu]
            simp [hs, hsz, sameAddr, heq]
          · exact h.elim
        · exact h.elim
      · exact h.elim
    · exact h.elim
  · rename_i T0 a0 hx hy
    split at h
    · rename_i ti ht
      have go : ∀ (v : Value), (∀ (z : Value) (w : World), (do eqGuard op t x y (.iface T0 z) .nilIface; binOp op t (.iface T0 z) .nilIface : Sem Value).run E.P w = .ok v w) → StillOk E.P o ge H nx (.v v) := by
        intro v hrun
        refine SameV.ok fun B0 O0 β O w ev hc hB hop => ?_
        obtain ⟨z, g1, _⟩ := (hx ▸ hop x (by simp [ho, Op.operands])).ic_inv
        have g3 : ev y = .nilIface := (hy ▸ hop y (by simp [ho, Op.operands])).v_inv
        refine ⟨v, ?_, R.vv v⟩
        have := hrun z w
        simp only [execOp, ho, g1, g3]
        simp only [Sem.run_bind] at this ⊢
        simp [this]
      split at h
      · rename_i hk
        refine ⟨_, go _ (fun z w => ?_), h⟩
        obtain ⟨d, hu, hd⟩ := run_und hE.T ht w
        rw [hk] at hd
        cases d <;> simp only [kindOk] at hd
        have hg : (eqGuard .eql t x y (.iface T0 z) .nilIface).run E.P w = .ok () w := by simp [eqGuard]
        rw [Sem.run_bind, hg, Result.andThen_ok]
        show ((do pure (Value.bool (← Op.equalIn 10000 t (.iface T0 z) .nilIface)) : Sem Value).run E.P w) = _
        rw [Sem.run_bind, Op.equalIn, Sem.run_bind, hu]
        simp
      · rename_i hk
        refine ⟨_, go _ (fun z w => ?_), h⟩
        obtain ⟨d, hu, hd⟩ := run_und hE.T ht w
        rw [hk] at hd
        cases d <;> simp only [kindOk] at hd
        have hg : (eqGuard .neq t x y (.iface T0 z) .nilIface).run E.P w = .ok () w := by simp [eqGuard]
        rw [Sem.run_bind, hg, Result.andThen_ok]
        show ((do pure (Value.bool (!(← Op.equalIn 10000 t (.iface T0 z) .nilIface))) : Sem Value).run E.P w) = _
        rw [Sem.run_bind, Op.equalIn, Sem.run_bind, hu]
        simp
      · exact h.elim
    · exact h.elim
  · rename_i hx hy
    obtain ⟨hyc, h⟩ := h
    obtain ⟨v0, rfl⟩ : ∃ v0, y = .const v0 := by
      cases y <;> simp only [nilC] at hyc <;> first | exact ⟨_, rfl⟩ | (cases hyc)
    split at h
    · rename_i ti ht
      have go : ∀ (v : Value), (∀ (w : World), (do eqGuard op t x (.const v0) .nilIface .nilIface; binOp op t .nilIface .nilIface : Sem Value).run E.P w = .ok v w) → StillOk E.P o ge H nx (.v v) := by
        intro v hrun
        refine SameV.ok fun B0 O0 β O w ev hc hB hop => ?_
        have g1 : ev x = .nilIface := (hx ▸ hop x (by simp [ho, Op.operands])).v_inv
        have g3 : ev (.const v0) = .nilIface := (hy ▸ hop (.const v0) (by simp [ho, Op.operands])).v_inv
        refine ⟨v, ?_, R.vv v⟩
        have := hrun w
        simp only [execOp, ho, g1, g3]
        simp only [Sem.run_bind] at this ⊢
        simp [this]
      split at h
      · rename_i hk
        refine ⟨_, go _ (fun w => ?_), h⟩
        obtain ⟨d, hu, hd⟩ := run_und hE.T ht w
        rw [hk] at hd
        cases d <;> simp only [kindOk] at hd
        have hg : (eqGuard .eql t x (.const v0) .nilIface .nilIface).run E.P w = .ok () w := by simp [eqGuard]
        rw [Sem.run_bind, hg, Result.andThen_ok]
        show ((do pure (Value.bool (← Op.equalIn 10000 t .nilIface .nilIface)) : Sem Value).run E.P w) = _
        rw [Sem.run_bind, Op.equalIn, Sem.run_bind, hu]
        simp
      · rename_i hk
        refine ⟨_, go _ (fun w => ?_), h⟩
        obtain ⟨d, hu, hd⟩ := run_und hE.T ht w
        rw [hk] at hd
        cases d <;> simp only [kindOk] at hd
        have hg : (eqGuard .neq t x (.const v0) .nilIface .nilIface).run E.P w = .ok () w := by simp [eqGuard]
        rw [Sem.run_bind, hg, Result.andThen_ok]
        show ((do pure (Value.bool (!(← Op.equalIn 10000 t .nilIface .nilIface))) : Sem Value).run E.P w) = _
        rw [Sem.run_bind, Op.equalIn, Sem.run_bind, hu]
        simp
      · exact h.elim
    · exact h.elim
  · rename_i hy
    split at h
    · rename_i b ti hb ht
      have go : ∀ (v : Value), (∀ (q : Option Addr) (w : World), q.isNone = b → (do eqGuard op t x y (.pointer q) (.pointer none); binOp op t (.pointer q) (.pointer none) : Sem Value).run E.P w = .ok v w) → StillOk E.P o ge H nx (.v v) := by
        intro v hrun
        refine SameV.ok fun B0 O0 β O w ev hc hB hop => ?_
        obtain ⟨q, g1, g2⟩ := isNilP_ok hb (hop x (by simp [ho, Op.operands]))
        have g3 : ev y = .pointer none := (hy ▸ hop y (by simp [ho, Op.operands])).v_inv
        refine ⟨v, ?_, R.vv v⟩
        have := hrun q w g2
        simp only [execOp, ho, g1, g3]
        simp only [Sem.run_bind] at this ⊢
        simp [this]
      split at h
      · rename_i e hk
        have hu := fun w => run_und_ptr hE.T ht hk w
        refine ⟨_, go _ (fun q w hq => ?_), h⟩
        have hg : (eqGuard .eql t x y (.pointer q) (.pointer none)).run E.P w = .ok () w := by cases q <;> simp [eqGuard]
        rw [Sem.run_bind, hg, Result.andThen_ok]
        show ((do pure (Value.bool (← Op.equalIn 10000 t (.pointer q) (.pointer none))) : Sem Value).run E.P w) = _
        rw [Sem.run_bind, Op.equalIn, Sem.run_bind, hu]
        cases q <;> simp at hq ⊢ <;> exact hq
      · rename_i e hk
        have hu := fun w => run_und_ptr hE.T ht hk w
        refine ⟨_, go _ (fun q w hq => ?_), h⟩
        have hg : (eqGuard .neq t x y (.pointer q) (.pointer none)).run E.P w = .ok () w := by cases q <;> simp [eqGuard]
        rw [Sem.run_bind, hg, Result.andThen_ok]
        show ((do pure (Value.bool (!(← Op.equalIn 10000 t (.pointer q) (.pointer none)))) : Sem Value).run E.P w) = _
        rw [Sem.run_bind, Op.equalIn, Sem.run_bind, hu]
        cases q <;> simp at hq ⊢ <;> exact hq
      · exact h.elim
    · exact h.elim
  · exact h.elim
def uop (op : UnOp) (x : AV) (K : AV → Prop) : Prop :=
  match op, x with
  | .neg, .v (.int k n) => K (.v (.int k (k.wrap (0 - n))))
  | .not, .v (.bool b) => K (.v (.bool (!b)))
  | _, _ => False
theorem uop_ok {op : UnOp} {t : TypeId} {x : Operand} (ho : o.op = .unOp op t x) (h : uop op (ge x) K) : ∃ r, StillOk E.P o ge H nx r ∧ K r := by
  unfold uop at h
  split at h
  · rename_i k n hx
    refine ⟨_, SameV.ok fun B0 O0 β O w ev hc hB hop => ?_, h⟩
    have h1 := (hx ▸ hop x (by simp [ho, Op.operands])).v_inv
    exact ⟨_, by simp [execOp, ho, h1, Op.unary, Op.intArith], R.vv _⟩
  · rename_i b hx
    refine ⟨_, SameV.ok fun B0 O0 β O w ev hc hB hop => ?_, h⟩
    have h1 := (hx ▸ hop x (by simp [ho, Op.operands])).v_inv
    exact ⟨_, by simp [execOp, ho, h1, Op.unary], R.vv _⟩
  · exact h.elim
theorem move_ok {x : Operand} (ho : o.op = .move x ∨ o.op = .assign x) (h : K (ge x)) : ∃ r, StillOk E.P o ge H nx r ∧ K r := by
  refine ⟨_, SameV.ok fun B0 O0 β O w ev hc hB hop => ?_, h⟩
  rcases ho with ho | ho
  · exact ⟨ev x, by simp [execOp, ho], hop x (by simp [ho, Op.operands])⟩
  · exact ⟨ev x, by simp [execOp, ho], hop x (by simp [ho, Op.operands])⟩
def pkB (c : Bool) (a b : AV) (K : AV → Prop) : Prop := bsplit c fun c => K (bif c then a else b)
theorem pkB_true (a b : AV) (K : AV → Prop) : pkB true a b K = K a := by simp [pkB, bsplit]
theorem pkB_false (a b : AV) (K : AV → Prop) : pkB false a b K = K b := by simp [pkB, bsplit]
def pk (c a b : AV) (K : AV → Prop) : Prop :=
  match c with
  | .v (.bool c) =>
    match a, b with
    | .v (.bool x), .v (.bool y) => K (.v (.bool (bif c then x else y)))
    | a, b => pkB c a b K
  | _ => False
theorem pk_ok {c a b : Operand} (ho : o.op = .pick c a b) (h : pk (ge c) (ge a) (ge b) K) : ∃ r, StillOk E.P o ge H nx r ∧ K r := by
  unfold pk at h
  split at h
  · rename_i cv hc
    split at h
    · rename_i x y ha hb
      refine ⟨_, SameV.ok fun B0 O0 β O w ev hh hB hop => ?_, h⟩
      have h1 := (hc ▸ hop c (by simp [ho, Op.operands])).v_inv
      have h2 := (ha ▸ hop a (by simp [ho, Op.operands])).v_inv
      have h3 := (hb ▸ hop b (by simp [ho, Op.operands])).v_inv
      refine ⟨.bool (bif cv then x else y), ?_, R.vv _⟩
      cases cv <;> simp [execOp, ho, h1, h2, h3, asBool]
    · refine ⟨_, SameV.ok fun B0 O0 β O w ev hh hB hop => ?_, bsplit_of h⟩
      have h1 := (hc ▸ hop c (by simp [ho, Op.operands])).v_inv
      refine ⟨bif cv then ev a else ev b, ?_, ?_⟩
      · cases cv <;> simp [execOp, ho, h1, asBool]
      · cases cv
        · exact hop b (by simp [ho, Op.operands])
        · exact hop a (by simp [ho, Op.operands])
  · exact h.elim
def byteAt (s : ByteArray) (i : Nat) : Nat := (s.data.toList.getD i 0).toNat
def bytesA (s : ByteArray) : List AV := (List.range s.size).map fun i => .v (.int .u8 (byteAt s i))
theorem bytesA_len (s : ByteArray) : (bytesA s).length = s.size := by simp [bytesA]
theorem bytesA_at {s : ByteArray} {i : Nat} (h : i < s.size) : (bytesA s)[i]? = some (.v (.int .u8 (byteAt s i))) := by simp [bytesA, h]
def toU8s? : List AV → Option (List Int)
  | [] => some []
  | a :: l => match a with
    | .v (.int .u8 n) => match toU8s? l with
      | some ns => some (n :: ns)
      | none => none
    | _ => none
theorem toU8s_some : ∀ {cs : List AV} {as : List Int}, toU8s? cs = some as → cs = as.map (fun n => AV.v (.int .u8 n))
  | [], as, h => by simp [toU8s?] at h; subst h; rfl
  | a :: l, as, h => by
    unfold toU8s? at h
    split at h
    · split at h
      · rename_i ns hns
        cases h
        rw [toU8s_some hns]; rfl
      · cases h
    · cases h
def strOf (ns : List Int) : ByteArray := ⟨(ns.map fun n => UInt8.ofNat n.toNat).toArray⟩
theorem foldl_strOf : ∀ (ns : List Int) (r : ByteArray), ns.foldl (fun r n => r.push (UInt8.ofNat n.toNat)) r = ⟨r.data ++ (ns.map fun n => UInt8.ofNat n.toNat).toArray⟩
  | [], r => by simp
  | n :: ns, r => by
    rw [List.foldl_cons, foldl_strOf ns]
    simp [ByteArray.push]
def conv (T : Tab) (src dst : TypeId) (x : AV) (K : AV → Prop) : Prop :=
  match T src, T dst with
  | some si, some di =>
    match di.kind, x with
    | .int k, .v (.int _ n) => K (.v (.int k (k.wrap n)))
    | .string, .v (.string s) => K (.v (.string s))
    | .slice e, .v (.string s) => match T e with
      | some ei => match ei.kind with
        | .int .u8 => K (.sl 1 s.size (bytesA s))
        | _ => False
      | none => False
    | .string, .sl 1 n cs => match si.kind with
      | .slice e => match T e with
        | some ei => match ei.kind, toU8s? cs with
          | .int .u8, some bs => K (.v (.string (strOf bs)))
          | _, _ => False
        | none => False
      | _ => False
    | _, _ => False
  | _, _ => False
theorem conv_ok (hE : EvOk E) {src dst : TypeId} {x : Operand} (ho : o.op = .convert src dst x) (h : conv E.T src dst (ge x) K) : ∃ r, StillOk E.P o ge H nx r ∧ K r := by
  unfold conv at h
  split at h
  · rename_i si di hs hd
    split at h
    · rename_i k k' n hk hx
      refine ⟨_, SameV.ok fun B0 O0 β O w ev hh hB hop => ?_, h⟩
      have h1 := (hx ▸ hop x (by simp [ho, Op.operands])).v_inv
      obtain ⟨sd, hsd, _⟩ := run_und hE.T hs w
      have hdd := run_und_int hE.T hd hk w
      refine ⟨.int k (k.wrap n), ?_, R.vv _⟩
      simp only [execOp, ho, h1, convert, Sem.run_bind, hsd, Result.andThen_ok, hdd]
      cases sd <;> simp [Conv.intToInt]
    · rename_i s hk hx
      refine ⟨_, SameV.ok fun B0 O0 β O w ev hh hB hop => ?_, h⟩
      have h1 := (hx ▸ hop x (by simp [ho, Op.operands])).v_inv
      obtain ⟨sd, hsd, _⟩ := run_und hE.T hs w
      have hdd := run_und_string hE.T hd hk w
      refine ⟨.string s, ?_, R.vv _⟩
      simp only [execOp, ho, h1, convert, Sem.run_bind, hsd, Result.andThen_ok, hdd]
      cases sd <;> simp
    · rename_i e s hk hx
      split at h
      · rename_i ei he
        split at h
        · rename_i hke
          refine ⟨_, fun B0 O0 β O w ev hh hB hop => ?_, h⟩
          have h1 := (hx ▸ hop x (by simp [ho, Op.operands])).v_inv
          obtain ⟨_, sd, hsd, _, _⟩ := hE.T src si hs
          obtain ⟨_, dd, hdd, hkd, _⟩ := hE.T dst di hd
          obtain ⟨_, ed, hed, hkd2, _⟩ := hE.T e ei he
          rw [hk] at hkd
          rw [hke] at hkd2
          cases dd <;> simp only [kindOk] at hkd
          cases ed <;> simp only [kindOk] at hkd2
          subst hkd hkd2
          have hrun := Lib.run_convert_string_bytes (P := E.P) w src dst e s hsd hdd hed
          have hex : (execOp ev o).run E.P w = .ok (.value (.slice (some ⟨w.heap.size, 0, none⟩) s.size (grownCap w s.size 0 e))) (Lib.bytesWorld w e s) := by
            simp only [execOp, ho, h1, Sem.run_bind, hrun, Result.andThen_ok, Sem.run_pure]
          rw [hex]
          have hsz := Lib.bytesWorld_size w e s
          refine ⟨⟨?_, ?_, ?_, ?_, by omega, fun b hb => Lib.bytesWorld_at_old w e s b hb⟩, .pl _ _ (Rp.mk_sl (fun hO => by have := hh.own.1 _ hO; omega) (by omega) (grownCap_ge w s.size 0 e) (by rw [bytesA_len]; omega) fun i c hi => ?_)⟩
          · unfold Lib.bytesWorld World.freeze; split <;> rfl
          · unfold Lib.bytesWorld World.freeze; split <;> rfl
          · unfold Lib.bytesWorld World.freeze; split <;> rfl
          · have : (Lib.bytesWorld w e s).drawn = w.drawn + 1 := by unfold Lib.bytesWorld World.freeze; split <;> rfl
            exact .of (by omega)
          · have hil : i < s.size := by rw [← bytesA_len]; exact (List.getElem?_eq_some_iff.1 hi).1
            rw [bytesA_at hil] at hi
            cases hi
            exact ⟨_, by rw [Nat.zero_add]; exact Lib.bytesWorld_cell w e s i hil, .v _⟩
        · exact h.elim
      · exact h.elim
    · rename_i n cs hk hx
      split at h
      · rename_i e hsk
        split at h
        · rename_i ei he
          split at h
          · rename_i bs hke hbs
            refine ⟨_, SameV.ok fun B0 O0 β O w ev hh hB hop => ?_, h⟩
            obtain ⟨_, sd, hsd, hks, _⟩ := hE.T src si hs
            obtain ⟨_, dd, hdd, hkd, _⟩ := hE.T dst di hd
            obtain ⟨_, ed, hed, hkd2, _⟩ := hE.T e ei he
            rw [hk] at hkd
            rw [hsk] at hks
            rw [hke] at hkd2
            cases sd <;> simp only [kindOk] at hks
            cases dd <;> simp only [kindOk] at hkd
            cases ed <;> simp only [kindOk] at hkd2
            subst hks hkd2
            have hcs := toU8s_some hbs
            obtain ⟨hl, ⟨rfl, rfl, ad, hv⟩ | ⟨b, off, cap, hO, hb, hn, hv, hc⟩⟩ := (hx ▸ hop x (by simp [ho, Op.operands])).sl_inv
            · refine ⟨.string (strOf bs), ?_, R.vv _⟩
              obtain rfl : bs = [] := by cases bs with
                | nil => rfl
                | cons a l => simp at hcs
              simp only [execOp, ho, hv, Sem.run_bind, run_convert_bytes_string w src dst e ad 0 0 hsd hed hdd]
              cases ad with
              | none => simp [Conv.bytesToString, strOf]; rfl
              | some a => rw [run_bytesToString w a 0 0 [] (by simp [loadCells, loadCellsFrom])]; simp [strOf]; rfl
            · refine ⟨.string (strOf bs), ?_, R.vv _⟩
              have hbl : bs.length = n := by rw [hcs] at hl; simpa using hl
              have hload := run_loadCells_list (P := E.P) w ⟨b, off, none⟩ (bs.map (Value.int .u8)) (fun j v hj => by
                have hj' : j < bs.length := by simpa using (List.getElem?_eq_some_iff.1 hj).1
                obtain ⟨y, g1, g2⟩ := hc j (.v (.int .u8 bs[j])) (by rw [hcs]; simp [hj'])
                rw [addr_add, g1]
                have := (R.pl (β := β) _ _ g2).v_inv
                subst this
                simpa [hj'] using hj)
              rw [List.length_map, hbl] at hload
              simp only [execOp, ho, hv, Sem.run_bind, run_convert_bytes_string w src dst e _ n cap hsd hed hdd, run_bytesToString w _ n cap _ hload, Result.andThen_ok, Sem.run_pure, foldl_strOf]
              simp [strOf]
          · exact h.elim
        · exact h.elim
      · exact h.elim
    · exact h.elim
  · exact h.elim
def cellsK (ti : TI) (cs : List AV) (i : Nat) (K : AV → Prop) : Prop :=
  bif ti.agg then i + ti.size ≤ cs.length ∧ K (.ag ((cs.drop i).take ti.size))
  else match cs[i]? with
    | some c => K c
    | none => False
def loadA (T : Tab) (H : Hp) (t : TypeId) (x : AV) (K : AV → Prop) : Prop :=
  match T t with
  | some ti =>
    match x with
    | .pt cs i => cellsK ti cs i K
    | .lp k off => match H k with | some c => cellsK ti c off K | none => False
    | _ => False
  | none => False
theorem load_cells (hE : EvOk E) {t : TypeId} {ti : TI} (ht : E.T t = some ti) {β : Bt} {O : Nat → Prop} {w : World} {b off i : Nat} {cs : List AV}
    (hcell : ∀ (j : Nat) (c : AV), cs[j]? = some c → ∃ x : Value, w.cell? ⟨b, off + j, none⟩ = some x ∧ R β O w c x) (h : cellsK ti cs i K) :
    ∃ r, K r ∧ ∃ u, (Instr.loadAt t (.pointer (some ⟨b, off + i, none⟩))).run E.P w = .ok u w ∧ R β O w r u := by
  unfold cellsK at h
  have hag := run_agg hE.T ht w
  have hsz := run_size hE.T ht w
  cases ha : ti.agg with
  | true =>
    rw [ha, cond_true] at h
    refine ⟨_, h.2, ?_⟩
    obtain ⟨hlen, _⟩ := h
    have hfam : ∀ j : Nat, ∃ u : Value, ∀ c : AV, ((cs.drop i).take ti.size)[j]? = some c → w.cell? ⟨b, off + i + j, none⟩ = some u ∧ R β O w c u := by
      intro j
      cases hj : ((cs.drop i).take ti.size)[j]? with
      | none => exact ⟨undef, fun c hc => by cases hc⟩
      | some c =>
        have hj' : cs[i + j]? = some c := by
          rw [List.getElem?_take] at hj
          split at hj
          · rwa [List.getElem?_drop] at hj
          · cases hj
        obtain ⟨u, h1, h2⟩ := hcell _ _ hj'
        exact ⟨u, fun c' hc => by cases hc; exact ⟨by rw [Nat.add_assoc]; exact h1, h2⟩⟩
    let us : List Value := (List.range ti.size).map fun j => (hfam j).choose
    have hus : us.length = ti.size := by simp [us]
    have hget : ∀ (j : Nat), j < ti.size → us[j]? = some ((hfam j).choose) := by
      intro j hj; simp [us, hj]
    have hin : ∀ j, j < ti.size → ∃ c, ((cs.drop i).take ti.size)[j]? = some c := by
      intro j hj
      have : j < ((cs.drop i).take ti.size).length := by simp; omega
      exact ⟨_, List.getElem?_eq_getElem this⟩
    have hload : (loadCells ⟨b, off + i, none⟩ ti.size).run E.P w = .ok us.toArray w := by
      have := run_loadCells_list (P := E.P) w ⟨b, off + i, none⟩ us (fun j v hv => by
        have hj : j < ti.size := by
          have := (List.getElem?_eq_some_iff.1 hv).1
          omega
        obtain ⟨c, hc⟩ := hin j hj
        rw [hget j hj] at hv
        cases hv
        rw [addr_add]
        exact ((hfam j).choose_spec c hc).1)
      rwa [hus] at this
    refine ⟨.agg us.toArray, ?_, R.mk_ag (by simp [hus]; omega) fun j c hc => ?_⟩
    · simp only [Instr.loadAt, Instr.sureAddr, loadVar, Sem.run_bind, Sem.run_pure, Result.andThen_ok, hag, ha, if_true, hsz, hload]
    · have hj : j < ti.size := by
        have := (List.getElem?_eq_some_iff.1 hc).1
        simp at this; omega
      exact ⟨(hfam j).choose, by simpa using hget j hj, ((hfam j).choose_spec c hc).2⟩
  | false =>
    rw [ha, cond_false] at h
    split at h
    · rename_i c hc
      obtain ⟨u, h1, h2⟩ := hcell _ _ hc
      refine ⟨_, h, u, ?_, h2⟩
      simp only [Instr.loadAt, Instr.sureAddr, loadVar, Sem.run_bind, Sem.run_pure, Result.andThen_ok, hag, ha]
      simp [h1]
    · exact h.elim
theorem cellsK_res {ti : TI} {cs : List AV} {i : Nat} (h : cellsK ti cs i K) : ∃ r, K r ∧ cellsK ti cs i (fun a => a = r) := by
  unfold cellsK at *
  cases ha : ti.agg with
  | true => rw [ha, cond_true] at h; exact ⟨_, h.2, by rw [cond_true]; exact ⟨h.1, rfl⟩⟩
  | false =>
    rw [ha, cond_false] at h
    split at h
    · exact ⟨_, h, by simp⟩
    · exact h.elim
theorem loadA_ok (hE : EvOk E) {t : TypeId} {x : Operand} (ho : o.op = .load t x) (h : loadA E.T H t (ge x) K) : ∃ r, StillOk E.P o ge H nx r ∧ K r := by
  unfold loadA at h
  split at h
  · rename_i ti ht
    split at h
    · rename_i cs i hx
      obtain ⟨r, hr, h⟩ := cellsK_res h
      refine ⟨r, SameV.ok fun B0 O0 β O w ev hh hB hop => ?_, hr⟩
      obtain ⟨b, off, _, _, hu, hcell⟩ := (hx ▸ hop x (by simp [ho, Op.operands])).pt_inv
      obtain ⟨_, rfl, u, h1, h2⟩ := load_cells hE ht (β := β) (O := O) (w := w) (b := b) (off := off) (fun j c hc => let ⟨y, a, p⟩ := hcell j c hc; ⟨y, a, .pl _ _ p⟩) h
      exact ⟨u, by simp only [execOp, ho, hu, Sem.run_bind, h1, Result.andThen_ok, Sem.run_pure], h2⟩
    · rename_i k off hx
      split at h
      · rename_i c hk
        obtain ⟨r, hr, h⟩ := cellsK_res h
        refine ⟨r, SameV.ok fun B0 O0 β O w ev hh hB hop => ?_, hr⟩
        obtain ⟨b, st, hb, hu⟩ := (hx ▸ hop x (by simp [ho, Op.operands])).lp_inv
        rcases hh.row k c hk with ⟨hn, _⟩ | ⟨b', st', hb', _, _, hrow⟩
        · rw [hb] at hn; cases hn
        · rw [hb] at hb'
          obtain ⟨rfl, rfl⟩ := by simpa using hb'
          obtain ⟨_, rfl, u, h1, h2⟩ := load_cells hE ht (β := β) (O := O) (w := w) (b := b) (off := st) (fun j c hc => hrow.cell hc) h
          exact ⟨u, by simp only [execOp, ho, hu, Sem.run_bind, h1, Result.andThen_ok, Sem.run_pure], h2⟩
      · exact h.elim
    · exact h.elim
  · exact h.elim
def fieldA (T : Tab) (s : TypeId) (x : AV) (f : Nat) (K : AV → Prop) : Prop :=
  match T s with
  | some si =>
    match si.kind with
    | .struct fs =>
      match fs[f]? with
      | some (off, ft) =>
        match T ft with
        | some fi =>
          fi.size ≠ 0 ∧ match x with
          | .pt cs i => K (.pt cs (i + off))
          | .lp k o => K (.lp k (o + off))
          | _ => False
        | none => False
      | none => False
    | _ => False
  | none => False
theorem fieldA_ok (hE : EvOk E) {s : TypeId} {x : Operand} {f : Nat} (ho : o.op = .fieldAddr s x f) (h : fieldA E.T s (ge x) f K) : ∃ r, StillOk E.P o ge H nx r ∧ K r := by
  unfold fieldA at h
  split at h
  · rename_i si hs
    split at h
    · rename_i fs hk
      split at h
      · rename_i off ft hf
        split at h
        · rename_i fi hft
          obtain ⟨hz, h⟩ := h
          have run : ∀ (w : World) (a : Addr), (Instr.fieldAt s (.pointer (some a)) f).run E.P w = .ok (.pointer (some (a.add off))) w := by
            intro w a
            obtain ⟨gs, h1, h2⟩ := run_und_struct hE.T hs hk w
            have hsz := run_size hE.T hft w
            have hg : ∃ g : Field, gs[f]? = some g ∧ g.offset = off ∧ g.type = ft := by
              rw [h2] at hf
              simp only [List.getElem?_map, Array.getElem?_toList] at hf
              cases hq : gs[f]? with
              | none => simp [hq] at hf
              | some g => simp [hq] at hf; exact ⟨g, rfl, hf.1, hf.2⟩
            obtain ⟨g, hg1, hg2, hg3⟩ := hg
            simp [Instr.fieldAt, h1, hg1, Instr.sureAddr, fieldPlace, hg3, hsz, hz, hg2]
          split at h
          · rename_i cs i hx
            refine ⟨_, SameV.ok fun B0 O0 β O w ev hh hB hop => ?_, h⟩
            obtain ⟨b, of, hO, hb, hu, hcell⟩ := (hx ▸ hop x (by simp [ho, Op.operands])).pt_inv
            exact ⟨.pointer (some ⟨b, of + (i + off), none⟩), by simp only [execOp, ho, hu, Sem.run_bind, run, Result.andThen_ok, Sem.run_pure, addr_add, Nat.add_assoc], .pl _ _ (Rp.mk_pt hO hb hcell)⟩
          · rename_i k of hx
            refine ⟨_, SameV.ok fun B0 O0 β O w ev hh hB hop => ?_, h⟩
            obtain ⟨b, st, hb, hu⟩ := (hx ▸ hop x (by simp [ho, Op.operands])).lp_inv
            exact ⟨.pointer (some ⟨b, st + (of + off), none⟩), by simp only [execOp, ho, hu, Sem.run_bind, run, Result.andThen_ok, Sem.run_pure, addr_add, Nat.add_assoc], .lp k (of + off) b st hb⟩
          · exact h.elim
        · exact h.elim
      · exact h.elim
    · exact h.elim
  · exact h.elim
end
end Go.Ab
set_option linter.unusedVariables false
set_option linter.unusedSimpArgs false
namespace Go.Ab
variable [Dr]
open Go.RowKit
section
variable {E : Ev} {o : Oper} {ge : Operand → AV} {H : Hp} {nx : Nat} {K : AV → Prop}
def fieldV (T : Tab) (s : TypeId) (x : AV) (f : Nat) (K : AV → Prop) : Prop :=
  match T s with
  | some si =>
    match si.kind, x with
    | .struct fs, .ag cs =>
      match fs[f]? with
      | some (off, ft) =>
        match T ft with
        | some fi => cellsK fi cs off K
        | none => False
      | none => False
    | _, _ => False
  | none => False
theorem run_part (hE : EvOk E) {t : TypeId} {ti : TI} (ht : E.T t = some ti) {β : Bt} {O : Nat → Prop} {w : World} {cs : List AV} {us : Array Value} {off : Nat}
    (hs : us.size = cs.length) (hu : ∀ (i : Nat) (c : AV), cs[i]? = some c → ∃ x : Value, us[i]? = some x ∧ R β O w c x) {r : AV} (h : cellsK ti cs off (fun a => a = r)) :
    ∃ u, (part t us off).run E.P w = .ok u w ∧ R β O w r u := by
  have hag := run_agg hE.T ht w
  have hsz := run_size hE.T ht w
  unfold cellsK at h
  cases ha : ti.agg with
  | true =>
    rw [ha, cond_true] at h
    obtain ⟨hl, rfl⟩ := h
    refine ⟨.agg (us.extract off (off + ti.size)), by simp [part, hag, ha, hsz], R.mk_ag (by simp; omega) fun i c hc => ?_⟩
    have hi : i < ti.size := by
      have := (List.getElem?_eq_some_iff.1 hc).1
      simp at this; omega
    rw [List.getElem?_take_of_lt hi, List.getElem?_drop] at hc
    obtain ⟨x, h1, h2⟩ := hu _ _ hc
    exact ⟨x, by rw [Array.getElem?_extract, if_pos (by omega)]; exact h1, h2⟩
  | false =>
    rw [ha, cond_false] at h
    split at h
    · rename_i c hc
      subst h
      obtain ⟨x, h1, h2⟩ := hu _ _ hc
      exact ⟨x, by simp [part, hag, ha, h1], h2⟩
    · exact h.elim
theorem fieldV_ok (hE : EvOk E) {s : TypeId} {x : Operand} {f : Nat} (ho : o.op = .field s x f) (h : fieldV E.T s (ge x) f K) : ∃ r, StillOk E.P o ge H nx r ∧ K r := by
  unfold fieldV at h
  split at h
  · rename_i si hs
    split at h
    · rename_i fs cs hk hx
      split at h
      · rename_i off ft hf
        split at h
        · rename_i fi hft
          obtain ⟨r, hr, h⟩ := cellsK_res h
          refine ⟨r, SameV.ok fun B0 O0 β O w ev hh hB hop => ?_, hr⟩
          obtain ⟨us, hu, hsz, hus⟩ := (hx ▸ hop x (by simp [ho, Op.operands])).ag_inv
          obtain ⟨u, h1, h2⟩ := run_part hE hft hsz hus h
          obtain ⟨gs, g1, g2⟩ := run_und_struct hE.T hs hk w
          have hg : ∃ g : Field, gs[f]? = some g ∧ g.offset = off ∧ g.type = ft := by
            rw [g2] at hf
            simp only [List.getElem?_map, Array.getElem?_toList] at hf
            cases hq : gs[f]? with
            | none => simp [hq] at hf
            | some g => simp [hq] at hf; exact ⟨g, rfl, hf.1, hf.2⟩
          obtain ⟨g, hg1, hg2, hg3⟩ := hg
          refine ⟨u, ?_, h2⟩
          simp [execOp, ho, hu, Instr.field, g1, hg1, hg2, hg3, asAgg, h1]
        · exact h.elim
      · exact h.elim
    · exact h.elim
  · exact h.elim
def indexA (T : Tab) (t : TypeId) (x ix : AV) (K : AV → Prop) : Prop :=
  match T t with
  | some ti =>
    match ti.kind with
    | .slice e =>
      match T e with
      | some ei =>
        match x, ix with
        | .sl sz n cs, .v (.int _ i) => sz = ei.size ∧ 0 ≤ i ∧ i < n ∧ K (.pt cs (i.toNat * sz))
        | .ls k off sz n, .v (.int _ i) => sz = ei.size ∧ 0 ≤ i ∧ i < n ∧ K (.lp k (off + i.toNat * sz))
        | _, _ => False
      | none => False
    | .array n e =>
      match T e with
      | some ei =>
        match x, ix with
        | .pt cs j, .v (.int _ i) => 0 ≤ i ∧ i < n ∧ K (.pt cs (j + i.toNat * ei.size))
        | .lp k j, .v (.int _ i) => 0 ≤ i ∧ i < n ∧ K (.lp k (j + i.toNat * ei.size))
        | _, _ => False
      | none => False
    | _ => False
  | none => False
theorem run_indexAt_sl (hE : EvOk E) {t e : TypeId} {ti ei : TI} (ht : E.T t = some ti) (hk : ti.kind = .slice e) (he : E.T e = some ei) (w : World) (a : Addr) (n cap : Nat) (k : IntKind) (i : Int) (h0 : 0 ≤ i) (h1 : i < n) :
    (Instr.indexAt t (.slice (some a) n cap) (.int k i)).run E.P w = .ok (.pointer (some (a.add (i.toNat * ei.size)))) w := by
  have hu := run_und_slice hE.T ht hk w
  have hs := run_size hE.T he w
  simp [Instr.indexAt, asIntOf, hu, hs, h0, h1]
theorem run_indexAt_arr (hE : EvOk E) {t e : TypeId} {m : Nat} {ti ei : TI} (ht : E.T t = some ti) (hk : ti.kind = .array m e) (he : E.T e = some ei) (w : World) (a : Addr) (k : IntKind) (i : Int) (h0 : 0 ≤ i) (h1 : i < m) :
    (Instr.indexAt t (.pointer (some a)) (.int k i)).run E.P w = .ok (.pointer (some (a.add (i.toNat * ei.size)))) w := by
  have hu := run_und_array hE.T ht hk w
  have hs := run_size hE.T he w
  simp [Instr.indexAt, asIntOf, hu, hs, h0, h1, Instr.sureAddr]
theorem indexA_ok (hE : EvOk E) {t : TypeId} {x ix : Operand} (ho : o.op = .indexAddr t x ix) (h : indexA E.T t (ge x) (ge ix) K) : ∃ r, StillOk E.P o ge H nx r ∧ K r := by
  unfold indexA at h
  split at h
  · rename_i ti ht
    split at h
    · rename_i e hk
      split at h
      · rename_i ei he
        split at h
        · rename_i sz n cs ik i hx hix
          obtain ⟨rfl, h0, h1, h⟩ := h
          refine ⟨_, SameV.ok fun B0 O0 β O w ev hh hB hop => ?_, h⟩
          have hi := (hix ▸ hop ix (by simp [ho, Op.operands])).v_inv
          obtain ⟨hl, ⟨rfl, _, _⟩ | ⟨b, off, cap, hO, hb, hn, hu, hc⟩⟩ := (hx ▸ hop x (by simp [ho, Op.operands])).sl_inv
          · omega
          · refine ⟨.pointer (some ⟨b, off + i.toNat * ei.size, none⟩), ?_, .pl _ _ (Rp.mk_pt hO hb hc)⟩
            simp only [execOp, ho, hi, hu, Sem.run_bind, run_indexAt_sl hE ht hk he w _ _ _ _ _ h0 h1, addr_add, Result.andThen_ok, Sem.run_pure]
        · rename_i k off sz n ik i hx hix
          obtain ⟨rfl, h0, h1, h⟩ := h
          refine ⟨_, SameV.ok fun B0 O0 β O w ev hh hB hop => ?_, h⟩
          have hi := (hix ▸ hop ix (by simp [ho, Op.operands])).v_inv
          rcases (hx ▸ hop x (by simp [ho, Op.operands])).ls_inv with ⟨_, rfl, _⟩ | ⟨b, st, cap, hb, hn, hu, _⟩
          · omega
          · refine ⟨.pointer (some ⟨b, st + (off + i.toNat * ei.size), none⟩), ?_, .lp k _ b st hb⟩
            simp only [execOp, ho, hi, hu, Sem.run_bind, run_indexAt_sl hE ht hk he w _ _ _ _ _ h0 h1, addr_add, Result.andThen_ok, Sem.run_pure, Nat.add_assoc]
        · exact h.elim
      · exact h.elim
    · rename_i m e hk
      split at h
      · rename_i ei he
        split at h
        · rename_i cs j ik i hx hix
          obtain ⟨h0, h1, h⟩ := h
          refine ⟨_, SameV.ok fun B0 O0 β O w ev hh hB hop => ?_, h⟩
          have hi := (hix ▸ hop ix (by simp [ho, Op.operands])).v_inv
          obtain ⟨b, off, hO, hb, hu, hc⟩ := (hx ▸ hop x (by simp [ho, Op.operands])).pt_inv
          refine ⟨.pointer (some ⟨b, off + (j + i.toNat * ei.size), none⟩), ?_, .pl _ _ (Rp.mk_pt hO hb hc)⟩
          simp only [execOp, ho, hi, hu, Sem.run_bind, run_indexAt_arr hE ht hk he w _ _ _ h0 h1, addr_add, Result.andThen_ok, Sem.run_pure, Nat.add_assoc]
        · rename_i k j ik i hx hix
          obtain ⟨h0, h1, h⟩ := h
          refine ⟨_, SameV.ok fun B0 O0 β O w ev hh hB hop => ?_, h⟩
          have hi := (hix ▸ hop ix (by simp [ho, Op.operands])).v_inv
          obtain ⟨b, st, hb, hu⟩ := (hx ▸ hop x (by simp [ho, Op.operands])).lp_inv
          refine ⟨.pointer (some ⟨b, st + (j + i.toNat * ei.size), none⟩), ?_, .lp k _ b st hb⟩
          simp only [execOp, ho, hi, hu, Sem.run_bind, run_indexAt_arr hE ht hk he w _ _ _ h0 h1, addr_add, Result.andThen_ok, Sem.run_pure, Nat.add_assoc]
        · exact h.elim
      · exact h.elim
    · exact h.elim
  · exact h.elim
def indexV (T : Tab) (t : TypeId) (x ix : AV) (K : AV → Prop) : Prop :=
  match T t with
  | some ti =>
    match ti.kind, x, ix with
    | .string, .v (.string s), .v (.int _ i) => 0 ≤ i ∧ i < s.size ∧ K (.v (.int .u8 (byteAt s i.toNat)))
    | .array n e, .ag cs, .v (.int _ i) =>
      match T e with
      | some ei => 0 ≤ i ∧ i < n ∧ cellsK ei cs (i.toNat * ei.size) K
      | none => False
    | _, _, _ => False
  | none => False
theorem indexV_ok (hE : EvOk E) {t : TypeId} {x ix : Operand} (ho : o.op = .index t x ix) (h : indexV E.T t (ge x) (ge ix) K) : ∃ r, StillOk E.P o ge H nx r ∧ K r := by
  unfold indexV at h
  split at h
  · rename_i ti ht
    split at h
    · rename_i s ik i hk hx hix
      obtain ⟨h0, h1, h⟩ := h
      refine ⟨_, SameV.ok fun B0 O0 β O w ev hh hB hop => ?_, h⟩
      have hi := (hix ▸ hop ix (by simp [ho, Op.operands])).v_inv
      have hxx := (hx ▸ hop x (by simp [ho, Op.operands])).v_inv
      have hu := run_und_string hE.T ht hk w
      have hlt : i.toNat < s.size := by omega
      refine ⟨_, ?_, R.vv _⟩
      simp only [execOp, ho, hi, hxx, Instr.index, asIntOf, Sem.run_bind, Sem.run_pure, Result.andThen_ok, hu, h0, if_true]
      have hlt' : i.toNat < s.data.size := hlt
      rw [getElem?_pos s i.toNat hlt]
      have : byteAt s i.toNat = (s[i.toNat]).toNat := by
        unfold byteAt
        rw [List.getD_eq_getElem?_getD, List.getElem?_eq_getElem (by simpa using hlt')]
        rfl
      simp [this]
    · rename_i m e cs ik i hk hx hix
      split at h
      · rename_i ei he
        obtain ⟨h0, h1, h⟩ := h
        obtain ⟨r, hr, h⟩ := cellsK_res h
        refine ⟨r, SameV.ok fun B0 O0 β O w ev hh hB hop => ?_, hr⟩
        have hi := (hix ▸ hop ix (by simp [ho, Op.operands])).v_inv
        obtain ⟨us, hu, hsz, hus⟩ := (hx ▸ hop x (by simp [ho, Op.operands])).ag_inv
        obtain ⟨u, g1, g2⟩ := run_part hE he hsz hus h
        have hd := run_und_array hE.T ht hk w
        have hs := run_size hE.T he w
        refine ⟨u, ?_, g2⟩
        simp [execOp, ho, hi, hu, Instr.index, asIntOf, hd, h0, h1, hs, g1]
      · exact h.elim
    · exact h.elim
  · exact h.elim
def exA (x : AV) (i : Nat) (K : AV → Prop) : Prop :=
  match x with
  | .tu vs => match vs[i]? with | some v => K v | none => False
  | _ => False
theorem exA_ok {x : Operand} {i : Nat} (ho : o.op = .extract x i) (h : exA (ge x) i K) : ∃ r, StillOk E.P o ge H nx r ∧ K r := by
  unfold exA at h
  split at h
  · rename_i vs hx
    split at h
    · rename_i v hv
      refine ⟨_, SameV.ok fun B0 O0 β O w ev hh hB hop => ?_, h⟩
      obtain ⟨us, hu, hsz, hus⟩ := (hx ▸ hop x (by simp [ho, Op.operands])).tu_inv
      obtain ⟨y, h1, h2⟩ := hus i v hv
      exact ⟨y, by simp [execOp, ho, hu, Instr.extract, h1], h2⟩
    · exact h.elim
  · exact h.elim
def nilA (x : AV) (K : AV → Prop) : Prop :=
  match x with
  | .pt cs i => K (.pt cs i)
  | .lp k off => K (.lp k off)
  | .ic t y => K (.ic t y)
  | _ => False
theorem nilA_ok {x : Operand} (ho : o.op = .nilCheck x) (h : nilA (ge x) K) : ∃ r, StillOk E.P o ge H nx r ∧ K r := by
  unfold nilA at h
  split at h
  · rename_i cs i hx
    refine ⟨_, SameV.ok fun B0 O0 β O w ev hh hB hop => ?_, h⟩
    have hr := (hx ▸ hop x (by simp [ho, Op.operands]))
    obtain ⟨b, off, _, _, hu, _⟩ := hr.pt_inv
    exact ⟨_, by simp [execOp, ho, hu], hu ▸ hr⟩
  · rename_i k off hx
    refine ⟨_, SameV.ok fun B0 O0 β O w ev hh hB hop => ?_, h⟩
    have hr := (hx ▸ hop x (by simp [ho, Op.operands]))
    obtain ⟨b, st, _, hu⟩ := hr.lp_inv
    exact ⟨_, by simp [execOp, ho, hu], hu ▸ hr⟩
  · rename_i t y hx
    refine ⟨_, SameV.ok fun B0 O0 β O w ev hh hB hop => ?_, h⟩
    have hr := (hx ▸ hop x (by simp [ho, Op.operands]))
    obtain ⟨z, hu, _⟩ := hr.ic_inv
    exact ⟨_, by simp [execOp, ho, hu], hu ▸ hr⟩
  · exact h.elim
def mkIf (T : Tab) (t : TypeId) (x : AV) (K : AV → Prop) : Prop :=
  match T t with
  | some ti => match ti.kind with
    | .iface => False
    | .other => False
    | _ => K (.ic t x)
  | none => False
theorem mkIf_ok (hE : EvOk E) {t : TypeId} {x : Operand} (ho : o.op = .makeInterface t x) (h : mkIf E.T t (ge x) K) : ∃ r, StillOk E.P o ge H nx r ∧ K r := by
  unfold mkIf at h
  split at h
  · rename_i ti ht
    have main : ∀ (hk : ∀ d, kindOk ti.kind d → ∀ ms, d ≠ .interface ms), K (.ic t (ge x)) → ∃ r, StillOk E.P o ge H nx r ∧ K r := by
      intro hk h
      refine ⟨_, SameV.ok fun B0 O0 β O w ev hh hB hop => ?_, h⟩
      obtain ⟨d, h1, h2⟩ := run_und hE.T ht w
      refine ⟨.iface t (ev x), ?_, .ic t _ _ (hop x (by simp [ho, Op.operands]))⟩
      simp only [execOp, ho, Instr.makeInterface, Sem.run_bind, h1, Result.andThen_ok]
      split
      · rename_i ms; exact absurd rfl (hk _ h2 ms)
      · simp
    split at h
    · exact h.elim
    · exact h.elim
    · rename_i h1 h2
      refine main (fun d hd ms e => ?_) h
      subst e
      cases hk : ti.kind <;> simp only [hk, kindOk] at hd
      · exact h1 hk
      · exact h2 hk
  · exact h.elim
theorem rs_map {β : Bt} {O : Nat → Prop} {w : World} {ops : Array Operand} {ev : Operand → Value} (h : ∀ x, x ∈ ops → R β O w (ge x) (ev x)) :
    (ops.map ev).size = (ops.toList.map ge).length ∧ ∀ (i : Nat) (a : AV), (ops.toList.map ge)[i]? = some a → ∃ u : Value, (ops.map ev)[i]? = some u ∧ R β O w a u := by
  refine ⟨by simp, fun i a ha => ?_⟩
  simp only [List.getElem?_map, Array.getElem?_toList] at ha
  cases hx : ops[i]? with
  | none => simp [hx] at ha
  | some x =>
    simp [hx] at ha
    exact ⟨ev x, by simp [hx], ha ▸ h x (Array.mem_of_getElem? hx)⟩
theorem mkFn_ok {f : Fn} {first captured : Array Operand} (ho : o.op = .makeFunc f first captured) (h : K (.fn f (first.toList.map ge) (captured.toList.map ge))) : ∃ r, StillOk E.P o ge H nx r ∧ K r := by
  refine ⟨_, SameV.ok fun B0 O0 β O w ev hh hB hop => ?_, h⟩
  obtain ⟨h1, h2⟩ := rs_map (ge := ge) (β := β) (O := O) (w := w) (ops := first) (ev := ev) (fun x hx => hop x (by simp [ho, Op.operands, hx]))
  obtain ⟨h3, h4⟩ := rs_map (ge := ge) (β := β) (O := O) (w := w) (ops := captured) (ev := ev) (fun x hx => hop x (by simp [ho, Op.operands, hx]))
  exact ⟨.func f (first.map ev) (captured.map ev), by simp [execOp, ho, Instr.makeFunc], R.mk_fn h1 h3 h2 h4⟩
def bnd (x : Option AV) (d : Int) (K : Int → Prop) : Prop :=
  match x with
  | none => K d
  | some (.v (.int _ i)) => K i
  | _ => False
def sliceA (T : Tab) (t : TypeId) (x : AV) (lo hi : Option AV) (K : AV → Prop) : Prop :=
  match T t with
  | some ti =>
    match ti.kind, x with
    | .slice e, .sl sz n cs =>
      match T e with
      | some ei => sz = ei.size ∧ bnd lo 0 fun l => bnd hi n fun h => 0 ≤ l ∧ l ≤ h ∧ h ≤ n ∧ K (.sl sz (h.toNat - l.toNat) ((cs.drop (l.toNat * sz)).take ((h.toNat - l.toNat) * sz)))
      | none => False
    | .string, .v (.string s) => bnd lo 0 fun l => bnd hi s.size fun h => 0 ≤ l ∧ l ≤ h ∧ h ≤ s.size ∧ K (.v (.string (s.extract l.toNat h.toNat)))
    | .array n e, .pt cs i => match T e, lo, hi with
      | some ei, none, none => i + n * ei.size ≤ cs.length ∧ K (.sl ei.size n ((cs.drop i).take (n * ei.size)))
      | _, _, _ => False
    | _, _ => False
  | none => False
theorem run_bounds (P : Program) (w : World) (isSlice : Bool) (len cap : Nat) (lo hi : Option Value) (l h : Int) (h0 : 0 ≤ l) (h1 : l ≤ h) (h2 : h ≤ cap)
    (hlo : (lo = none ∧ l = 0) ∨ ∃ k, lo = some (.int k l)) (hhi : (hi = none ∧ h = len) ∨ ∃ k, hi = some (.int k h)) :
    (Instr.sliceBounds isSlice len cap lo hi none).run P w = .ok (l.toNat, h.toNat, cap) w := by
  have a1 : 0 ≤ h := by omega
  have a2 : l ≤ (h.toNat : Int) := by omega
  rcases hlo with ⟨rfl, rfl⟩ | ⟨k, rfl⟩ <;> rcases hhi with ⟨rfl, rfl⟩ | ⟨k', rfl⟩
  · simp [Instr.sliceBounds]
  · simp [Instr.sliceBounds, Instr.sliceBound, asIntOf, a1, h2]
  · simp [Instr.sliceBounds, Instr.sliceBound, asIntOf, h0, h1]
  · have e : (h.toNat : Int) = h := Int.toNat_of_nonneg a1
    simp only [Instr.sliceBounds, Instr.sliceBound, asIntOf, Sem.run_bind, Sem.run_pure, Result.andThen_ok, a1, h2, and_self, if_true, h0, e, h1]
theorem bnd_inv {β : Bt} {O : Nat → Prop} {w : World} {x : Option Operand} {d : Int} {ev : Operand → Value} {K : Int → Prop} (hx : ∀ y, x = some y → R β O w (ge y) (ev y)) (h : bnd (x.map ge) d K) :
    ∃ l, K l ∧ ((x.map ev = none ∧ l = d) ∨ ∃ k, x.map ev = some (.int k l)) := by
  cases x with
  | none => exact ⟨d, h, .inl ⟨rfl, rfl⟩⟩
  | some y =>
    simp only [Option.map_some, bnd] at h
    split at h
    · cases ‹some _ = none›
    · rename_i k i he
      have he : ge y = .v (.int k i) := Option.some.inj he
      exact ⟨i, h, .inr ⟨k, by simp [(he ▸ hx y rfl).v_inv]⟩⟩
    · exact h.elim
theorem bnd_res {x : Option AV} {d : Int} {K : Int → Prop} (h : bnd x d K) : ∃ l, K l ∧ bnd x d (fun i => i = l) := by
  unfold bnd at *
  split at h
  · exact ⟨_, h, rfl⟩
  · exact ⟨_, h, rfl⟩
  · exact h.elim
theorem sliceA_ok (hE : EvOk E) {t : TypeId} {x : Operand} {lo hi : Option Operand} (ho : o.op = .slice t x lo hi none) (h : sliceA E.T t (ge x) (lo.map ge) (hi.map ge) K) : ∃ r, StillOk E.P o ge H nx r ∧ K r := by
  unfold sliceA at h
  split at h
  · rename_i ti ht
    split at h
    · rename_i e sz n cs hk hx
      split at h
      · rename_i ei he
        obtain ⟨rfl, h⟩ := h
        obtain ⟨l, h, hl⟩ := bnd_res h
        obtain ⟨hh, h, hhh⟩ := bnd_res h
        obtain ⟨h0, h1, h2, h⟩ := h
        refine ⟨_, SameV.ok fun B0 O0 β O w ev hc hB hop => ?_, h⟩
        obtain ⟨l', el, hlo⟩ := bnd_inv (ge := ge) (ev := ev) (β := β) (O := O) (w := w) (x := lo) (fun y hy => hop y (by simp [ho, Op.operands, hy])) hl
        obtain ⟨h', eh, hhi⟩ := bnd_inv (ge := ge) (ev := ev) (β := β) (O := O) (w := w) (x := hi) (fun y hy => hop y (by simp [ho, Op.operands, hy])) hhh
        rw [el] at hlo
        rw [eh] at hhi
        have hu := run_und_slice hE.T ht hk w
        have hs := run_size hE.T he w
        obtain ⟨hlen, ⟨rfl, rfl, ad, hv⟩ | ⟨b, off, cap, hO, hb, hn, hv, hcell⟩⟩ := (hx ▸ hop x (by simp [ho, Op.operands])).sl_inv
        · have e1 : l = 0 := by omega
          have e2 : hh = 0 := by omega
          subst e1 e2
          have hbd := run_bounds E.P w true 0 0 (lo.map ev) (hi.map ev) 0 0 (by omega) (by omega) (by omega) hlo hhi
          refine ⟨.slice ad 0 0, ?_, by simpa using R.pl _ _ (Rp.nla _ ad)⟩
          cases ad <;> simp [execOp, ho, hv, Instr.sliceAt, Instr.slice, hu, hbd, hs]
        · have hbd := run_bounds E.P w true n cap (lo.map ev) (hi.map ev) l hh h0 h1 (by omega) hlo hhi
          by_cases hm : cap = l.toNat
          · have e0 : hh.toNat - l.toNat = 0 := by omega
            subst hm
            refine ⟨.slice (some ⟨b, off, none⟩) 0 0, ?_, ?_⟩
            · simp only [execOp, ho, hv, Instr.sliceAt, Instr.slice, Sem.run_bind, hu, Option.map_none, hbd, hs, Result.andThen_ok, Sem.run_pure, if_true, Nat.sub_self, e0]
            · rw [e0]
              exact .pl _ _ (Rp.mk_sl hO hb (by omega) (by simp) (fun i c hi => by simp at hi))
          · refine ⟨.slice (some ⟨b, off + l.toNat * ei.size, none⟩) (hh.toNat - l.toNat) (cap - l.toNat), ?_, ?_⟩
            · simp [execOp, ho, hv, Instr.sliceAt, Instr.slice, hu, hbd, hs, hm, addr_add]
            · refine .pl _ _ (Rp.mk_sl hO hb (by omega) ?_ fun i c hi => ?_)
              · have : hh.toNat ≤ n := by omega
                have : hh.toNat * ei.size ≤ n * ei.size := Nat.mul_le_mul_right _ this
                rw [List.length_take, List.length_drop, hlen, Nat.sub_mul]
                omega
              · rw [List.getElem?_take] at hi
                split at hi
                · rw [List.getElem?_drop] at hi
                  obtain ⟨y, h3, h4⟩ := hcell _ _ hi
                  exact ⟨y, by rw [Nat.add_assoc]; exact h3, h4⟩
                · cases hi
      · exact h.elim
    · rename_i s hk hx
      obtain ⟨l, h, hl⟩ := bnd_res h
      obtain ⟨hh, h, hhh⟩ := bnd_res h
      obtain ⟨h0, h1, h2, h⟩ := h
      refine ⟨_, SameV.ok fun B0 O0 β O w ev hc hB hop => ?_, h⟩
      obtain ⟨l', el, hlo⟩ := bnd_inv (ge := ge) (ev := ev) (β := β) (O := O) (w := w) (x := lo) (fun y hy => hop y (by simp [ho, Op.operands, hy])) hl
      obtain ⟨h', eh, hhi⟩ := bnd_inv (ge := ge) (ev := ev) (β := β) (O := O) (w := w) (x := hi) (fun y hy => hop y (by simp [ho, Op.operands, hy])) hhh
      rw [el] at hlo
      rw [eh] at hhi
      have hu := run_und_string hE.T ht hk w
      have hv := (hx ▸ hop x (by simp [ho, Op.operands])).v_inv
      have hbd := run_bounds E.P w false s.size s.size (lo.map ev) (hi.map ev) l hh h0 h1 (by omega) hlo hhi
      exact ⟨.string (s.extract l.toNat hh.toNat), by simp [execOp, ho, hv, Instr.sliceAt, Instr.slice, hu, hbd], R.vv _⟩
    · rename_i n e cs i hk hx
      split at h
      · rename_i ei he hlo hhi
        obtain ⟨hle, h⟩ := h
        have hl0 : lo = none := by cases lo <;> simp_all
        have hh0 : hi = none := by cases hi <;> simp_all
        subst hl0 hh0
        refine ⟨_, SameV.ok fun B0 O0 β O w ev hc hB hop => ?_, h⟩
        obtain ⟨b, off, hO, hb, hu, hcell⟩ := (hx ▸ hop x (by simp [ho, Op.operands])).pt_inv
        have hun := run_und_array hE.T ht hk w
        have hsz := run_size hE.T he w
        have hbd := run_bounds E.P w false n n none none 0 n (by omega) (by omega) (by omega) (.inl ⟨rfl, rfl⟩) (.inl ⟨rfl, rfl⟩)
        refine ⟨.slice (some ⟨b, off + i, none⟩) n n, ?_, .pl _ _ (Rp.mk_sl hO hb (Nat.le_refl _) (by simp; omega) fun j c hj => ?_)⟩
        · have e0 : (0 : Int).toNat = 0 := rfl
          have e1 : ((n : Int)).toNat = n := by omega
          rw [e0, e1] at hbd
          simp only [execOp, ho, hu, Instr.sliceAt, Sem.run_bind, hun, Result.andThen_ok, Option.map_none, Instr.sureAddr, Sem.run_pure, hbd, hsz, Nat.zero_mul, Nat.sub_zero, addr_add, Nat.add_zero]
          split <;> rfl
        · rw [List.getElem?_take] at hj
          split at hj
          · rw [List.getElem?_drop] at hj
            obtain ⟨y, h3, h4⟩ := hcell _ _ hj
            exact ⟨y, by rw [Nat.add_assoc]; exact h3, h4⟩
          · cases hj
      · exact h.elim
    · exact h.elim
  · exact h.elim
def lenA (T : Tab) (t : TypeId) (x : AV) (K : AV → Prop) : Prop :=
  match T t with
  | some ti =>
    match ti.kind, x with
    | .slice _, .sl _ n _ => K (.v (.int .i64 n))
    | .slice _, .ls _ _ _ n => K (.v (.int .i64 n))
    | .slice _, .v (.slice _ n _) => K (.v (.int .i64 n))
    | .string, .v (.string s) => K (.v (.int .i64 s.size))
    | .array n _, _ => K (.v (.int .i64 n))
    | _, _ => False
  | none => False
theorem len_ok (hE : EvOk E) {t : TypeId} {x : Operand} (ho : o.op = .call { callee := .builtin .len, args := #[x], argTypes := #[t] }) (h : lenA E.T t (ge x) K) : ∃ r, StillOk E.P o ge H nx r ∧ K r := by
  unfold lenA at h
  split at h
  · rename_i ti ht
    split at h
    · rename_i e sz n cs hk hx
      refine ⟨_, SameV.ok fun B0 O0 β O w ev hc hB hop => ?_, h⟩
      have hu := run_und_slice hE.T ht hk w
      have hr := hx ▸ hop x (by simp [ho, Op.operands, Call.operands])
      have : ∃ a c, ev x = .slice a n c := by
        obtain ⟨_, ⟨rfl, _, _, hv⟩ | ⟨b, off, cap, _, _, _, hv, _⟩⟩ := hr.sl_inv
        · exact ⟨_, _, hv⟩
        · exact ⟨_, _, hv⟩
      obtain ⟨a, c, hv⟩ := this
      exact ⟨_, by simp [execOp, ho, resolve, invoke, builtin, Builtin.len_, hu, hv, goInt], R.vv _⟩
    · rename_i e k off sz n hk hx
      refine ⟨_, SameV.ok fun B0 O0 β O w ev hc hB hop => ?_, h⟩
      have hu := run_und_slice hE.T ht hk w
      have hr := hx ▸ hop x (by simp [ho, Op.operands, Call.operands])
      have : ∃ a c, ev x = .slice a n c := by
        rcases hr.ls_inv with ⟨_, rfl, a, hv, _⟩ | ⟨b, st, cap, _, _, hv, _⟩
        · exact ⟨_, _, hv⟩
        · exact ⟨_, _, hv⟩
      obtain ⟨a, c, hv⟩ := this
      exact ⟨_, by simp [execOp, ho, resolve, invoke, builtin, Builtin.len_, hu, hv, goInt], R.vv _⟩
    · rename_i e a n c hk hx
      refine ⟨_, SameV.ok fun B0 O0 β O w ev hc hB hop => ?_, h⟩
      have hu := run_und_slice hE.T ht hk w
      have hv := (hx ▸ hop x (by simp [ho, Op.operands, Call.operands])).v_inv
      exact ⟨_, by simp [execOp, ho, resolve, invoke, builtin, Builtin.len_, hu, hv, goInt], R.vv _⟩
    · rename_i s hk hx
      refine ⟨_, SameV.ok fun B0 O0 β O w ev hc hB hop => ?_, h⟩
      have hu := run_und_string hE.T ht hk w
      have hv := (hx ▸ hop x (by simp [ho, Op.operands, Call.operands])).v_inv
      exact ⟨_, by simp [execOp, ho, resolve, invoke, builtin, Builtin.len_, hu, hv, goInt], R.vv _⟩
    · rename_i n e hk
      refine ⟨_, SameV.ok fun B0 O0 β O w ev hc hB hop => ?_, h⟩
      have hu := run_und_array hE.T ht hk w
      exact ⟨_, by simp [execOp, ho, resolve, invoke, builtin, Builtin.len_, hu, goInt], R.vv _⟩
    · exact h.elim
  · exact h.elim
def mm (lt : Int → Int → Bool) (k : IntKind) (a : Int) : List AV → (AV → Prop) → Prop
  | [], K => K (.v (.int k a))
  | c :: l, K => match c with
    | .v (.int _ b) => mm lt k (bif lt a b then b else a) l K
    | _ => False
def mmA (isMax : Bool) (xs : List AV) (K : AV → Prop) : Prop :=
  match xs with
  | .v (.int k a) :: l => mm (fun a b => bif isMax then decide (a < b) else decide (b < a)) k a l K
  | _ => False
theorem mm_run (P : Program) (w : World) (f : Value → Value → Sem Value) (lt : Int → Int → Bool) (hf : ∀ k a k' b, (f (.int k a) (.int k' b)).run P w = .ok (.int k (bif lt a b then b else a)) w) :
    ∀ (l : List AV) (us : List Value) (k : IntKind) (a : Int), us.length = l.length → (∀ (i : Nat) (c : AV), l[i]? = some c → ∀ x : Value, c = .v x → us[i]? = some x) → mm lt k a l K → ∃ r : Int, K (.v (.int k r)) ∧ (us.foldlM f (.int k a) : Sem Value).run P w = .ok (.int k r) w
  | [], us, k, a, hl, _, h => by
    have : us = [] := List.length_eq_zero_iff.1 (by simpa using hl)
    subst this
    exact ⟨a, h, rfl⟩
  | c :: l, us, k, a, hl, hu, h => by
    cases us with
    | nil => simp at hl
    | cons u us =>
      unfold mm at h
      split at h
      · rename_i k' b
        have hu0 := hu 0 _ rfl _ rfl
        simp at hu0
        subst hu0
        obtain ⟨r, h1, h2⟩ := mm_run P w f lt hf l us k _ (by simpa using hl) (fun i c hc x hx => by simpa using hu (i + 1) c (by simpa using hc) x hx) h
        refine ⟨r, h1, ?_⟩
        rw [List.foldlM_cons, Sem.run_bind, hf, Result.andThen_ok, h2]
      · exact h.elim
theorem mm_ok {b : Builtin} {isMax : Bool} {xs : Array Operand} {ts : Array TypeId} (hb : (isMax = true ∧ b = .max) ∨ (isMax = false ∧ b = .min)) (ho : o.op = .call { callee := .builtin b, args := xs, argTypes := ts })
    (h : mmA isMax (xs.toList.map ge) K) : ∃ r, StillOk E.P o ge H nx r ∧ K r := by
  unfold mmA at h
  split at h
  · rename_i k a l hx
    have hres : ∀ (f : Value → Value → Sem Value) (lt : Int → Int → Bool), (∀ w k a k' b, (f (.int k a) (.int k' b)).run E.P w = .ok (.int k (bif lt a b then b else a)) w) → ∀ (l : List AV) (a : Int), mm lt k a l K →
        ∃ r : Int, K (.v (.int k r)) ∧ mm lt k a l (fun x => x = .v (.int k r)) := by
      intro f lt hf l
      induction l with
      | nil => intro a h; exact ⟨a, h, rfl⟩
      | cons c l ih =>
        intro a h
        unfold mm at h ⊢
        split at h
        · exact ih _ h
        · exact h.elim
    have fin : ∀ (f : Value → Value → Sem Value) (lt : Int → Int → Bool), (∀ w k a k' b, (f (.int k a) (.int k' b)).run E.P w = .ok (.int k (bif lt a b then b else a)) w) → mm lt k a l K →
        (∀ (ev : Operand → Value) (w : World) (x : Value) (rest : List Value), (xs.map ev).toList = x :: rest → (execOp ev o).run E.P w = (do pure (Next.value (← rest.foldlM f x)) : Sem Next).run E.P w) → ∃ r, StillOk E.P o ge H nx r ∧ K r := by
      intro f lt hf h he
      obtain ⟨r, hr, h⟩ := hres f lt hf l a h
      refine ⟨_, SameV.ok fun B0 O0 β O w ev hc hB hop => ?_, hr⟩
      obtain ⟨hs, hu⟩ := rs_map (ge := ge) (β := β) (O := O) (w := w) (ops := xs) (ev := ev) (fun x hx => hop x (by simp [ho, Op.operands, Call.operands, hx]))
      rw [hx] at hs hu
      obtain ⟨u0, us, hus⟩ : ∃ u0 us, (xs.map ev).toList = u0 :: us := by
        cases hq : (xs.map ev).toList with
        | nil => rw [← Array.length_toList, hq] at hs; simp at hs
        | cons a b => exact ⟨a, b, rfl⟩
      have hg : ∀ (i : Nat) (c : AV), (AV.v (.int k a) :: l)[i]? = some c → ∀ x, c = .v x → (u0 :: us)[i]? = some x := by
        intro i c hc x hcx
        obtain ⟨u, h1, h2⟩ := hu i c hc
        rw [hcx] at h2
        rw [← hus, Array.getElem?_toList, h1, h2.v_inv]
      have e0 : u0 = .int k a := by simpa using hg 0 _ rfl _ rfl
      subst e0
      obtain ⟨r', h1, h2⟩ := mm_run E.P w f lt (hf w) l us k a (by rw [← Array.length_toList, hus] at hs; simpa using hs) (fun i c hc x hx => by simpa using hg (i + 1) c (by simpa using hc) x hx) h
      have h1 : r' = r := by simpa using h1
      subst h1
      refine ⟨.int k r', ?_, R.vv _⟩
      rw [he ev w _ _ hus]
      simp only [Sem.run_bind, h2, Result.andThen_ok, Sem.run_pure]
    rcases hb with ⟨rfl, rfl⟩ | ⟨rfl, rfl⟩
    · exact fin Builtin.max2 _ (fun w k a k' b => by simp only [Builtin.max2, Sem.run_pure, cond_true, gt_iff_lt]; by_cases h : a < b <;> simp [h]) h (fun ev w x rest hxs => by
        simp only [execOp, ho, resolve, Sem.run_bind, Sem.run_pure, Result.andThen_ok, invoke, builtin, Builtin.max_, hxs])
    · exact fin Builtin.min2 _ (fun w k a k' b => by simp only [Builtin.min2, Sem.run_pure, cond_false]; by_cases h : b < a <;> simp [h]) h (fun ev w x rest hxs => by
        simp only [execOp, ho, resolve, Sem.run_bind, Sem.run_pure, Result.andThen_ok, invoke, builtin, Builtin.min_, hxs])
  · exact h.elim
end
end Go.Ab
set_option linter.unusedVariables false
set_option linter.unusedSimpArgs false
namespace Go.Ab
variable [Dr]
open Go.RowKit
section
variable {E : Ev} {o : Oper} {ge : Operand → AV} {H : Hp} {nx : Nat} {K : AV → Prop}
def splice (cs : List AV) (i : Nat) (xs : List AV) : List AV := cs.take i ++ (xs ++ cs.drop (i + xs.length))
theorem splice_length {cs : List AV} {i : Nat} {xs : List AV} (h : i + xs.length ≤ cs.length) : (splice cs i xs).length = cs.length := by
  simp [splice]; omega
theorem splice_get {cs : List AV} {i : Nat} {xs : List AV} (h : i + xs.length ≤ cs.length) (j : Nat) :
    (splice cs i xs)[j]? = if i ≤ j ∧ j < i + xs.length then xs[j - i]? else cs[j]? := by
  unfold splice
  rw [List.getElem?_append]
  have hl : (cs.take i).length = i := by simp; omega
  rw [hl]
  split
  · rw [if_neg (by omega), List.getElem?_take_of_lt (by omega)]
  · rw [List.getElem?_append]
    split
    · rw [if_pos (by omega)]
    · rw [if_neg (by omega), List.getElem?_drop]
      congr 1
      omega
theorem fold_set_size (off : Nat) : ∀ (l : List (Value × Nat)) (arr : Array Value), (l.foldl (fun cs p => cs.setIfInBounds (off + p.2) p.1) arr).size = arr.size
  | [], arr => rfl
  | p :: l, arr => by rw [List.foldl_cons, fold_set_size off l]; simp
theorem fold_set (off : Nat) : ∀ (l : List Value) (k : Nat) (arr : Array Value) (j : Nat), off + k + l.length ≤ arr.size →
    ((l.zipIdx k).foldl (fun cs p => cs.setIfInBounds (off + p.2) p.1) arr)[j]? = if off + k ≤ j ∧ j < off + k + l.length then l[j - (off + k)]? else arr[j]?
  | [], k, arr, j, h => by simp only [List.zipIdx_nil, List.foldl_nil, List.length_nil]; rw [if_neg (by omega)]
  | v :: l, k, arr, j, h => by
    simp only [List.length_cons] at h
    rw [List.zipIdx_cons, List.foldl_cons, fold_set off l (k + 1) _ j (by simp; omega)]
    by_cases hj : j = off + k
    · subst hj
      rw [if_neg (by omega), if_pos (by simp), Nat.sub_self]
      simp only [List.getElem?_cons_zero]
      rw [Array.getElem?_setIfInBounds_self_of_lt (by omega)]
    · by_cases h2 : off + k ≤ j ∧ j < off + k + (l.length + 1)
      · rw [if_pos (by omega), if_pos (by simpa using h2)]
        obtain ⟨d, hd⟩ : ∃ d, j = off + k + (d + 1) := ⟨j - (off + k) - 1, by omega⟩
        subst hd
        have e1 : off + k + (d + 1) - (off + (k + 1)) = d := by omega
        have e2 : off + k + (d + 1) - (off + k) = d + 1 := by omega
        rw [e1, e2]; simp
      · rw [if_neg (by omega), if_neg (by simpa using h2)]
        simp only []
        rw [Array.getElem?_setIfInBounds_ne (by omega)]
theorem rs_splice {β : Bt} {O : Nat → Prop} {w : World} {cs xs : List AV} {arr vs : Array Value} {off : Nat} (h : Rs β O w cs arr) (hx : Rs β O w xs vs) (hl : off + xs.length ≤ cs.length) :
    Rs β O w (splice cs off xs) (vs.zipIdx.foldl (fun cs (c, j) => cs.setIfInBounds (off + j) c) arr) := by
  have e : vs.zipIdx.foldl (fun cs (c, j) => cs.setIfInBounds (off + j) c) arr = (vs.toList.zipIdx 0).foldl (fun cs p => cs.setIfInBounds (off + p.2) p.1) arr := by
    rw [← Array.foldl_toList, Array.toList_zipIdx]
  rw [e]
  have hvs : vs.toList.length = xs.length := by simpa using hx.1
  refine ⟨by rw [fold_set_size, splice_length hl, h.1], fun i a ha => ?_⟩
  rw [splice_get hl] at ha
  rw [fold_set off vs.toList 0 arr i (by rw [hvs, h.1]; omega), hvs, Nat.add_zero]
  split at ha
  · rename_i hc
    rw [if_pos hc]
    obtain ⟨u, h1, h2⟩ := hx.2 _ _ ha
    exact ⟨u, by simpa using h1, h2⟩
  · rename_i hc
    rw [if_neg hc]
    exact h.2 _ _ ha
def fillK (place : Nat → Option (Nat × Nat)) (cells : List AV) : List (Nat × AV) → (List AV → Prop) → Prop
  | [], K => K cells
  | p :: rest, K =>
    match place p.1, p.2.cells? with
    | some (off, size), some cs => cs.length = size ∧ off + cs.length ≤ cells.length ∧ fillK place (splice cells off cs) rest K
    | _, _ => False
theorem fillK_res {place : Nat → Option (Nat × Nat)} : ∀ {parts : List (Nat × AV)} {cells : List AV} {K : List AV → Prop}, fillK place cells parts K → ∃ cs, K cs ∧ fillK place cells parts (fun x => x = cs)
  | [], cells, K, h => ⟨cells, h, rfl⟩
  | p :: rest, cells, K, h => by
    unfold fillK at h ⊢
    split at h
    · obtain ⟨h1, h2, h⟩ := h
      obtain ⟨cs, h3, h4⟩ := fillK_res h
      exact ⟨cs, h3, h1, h2, h4⟩
    · exact h.elim
theorem fill_run {β : Bt} {O : Nat → Prop} {w : World} {place place' : Nat → Option (Nat × Nat)} (hp : ∀ i p, place i = some p → place' i = some p) :
    ∀ (parts : List (Nat × AV)) (vparts : List (Nat × Value)) (cells cs : List AV) (arr : Array Value), vparts.length = parts.length → (∀ (i : Nat) (p : Nat × AV), parts[i]? = some p → ∃ u, vparts[i]? = some (p.1, u) ∧ R β O w p.2 u) →
      Rs β O w cells arr → fillK place cells parts (fun x => x = cs) → ∃ arr', Instr.fill place' arr vparts = some arr' ∧ Rs β O w cs arr'
  | [], vparts, cells, cs, arr, hl, _, h, hf => by
    have : vparts = [] := List.length_eq_zero_iff.1 (by simpa using hl)
    subst this
    have hf : cells = cs := hf
    subst hf
    exact ⟨arr, rfl, h⟩
  | p :: rest, vparts, cells, cs, arr, hl, hu, h, hf => by
    cases vparts with
    | nil => simp at hl
    | cons v vrest =>
      obtain ⟨u, h1, h2⟩ := hu 0 p rfl
      simp at h1
      subst h1
      unfold fillK at hf
      split at hf
      · rename_i off size xs hpl hcs
        obtain ⟨e1, e2, hf⟩ := hf
        have hc := h2.cells hcs
        have hrs := rs_splice (off := off) h (xs := xs) (vs := u.cells) hc e2
        obtain ⟨arr', g1, g2⟩ := fill_run hp rest vrest _ cs _ (by simpa using hl) (fun i q hq => by simpa using hu (i + 1) q (by simpa using hq)) hrs hf
        refine ⟨arr', ?_, g2⟩
        rw [Instr.fill, hp _ _ hpl]
        have n1 : ¬ (u.cells.size ≠ size || off + u.cells.size > arr.size) = true := by
          have := h.1
          simp [hc.1, e1]; omega
        simp only [n1]
        exact g1
      · exact hf.elim
def zrep (zs : List AV) (n : Nat) : List AV := (List.replicate n zs).flatten
theorem zrep_length (zs : List AV) (n : Nat) : (zrep zs n).length = n * zs.length := by
  simp [zrep]
theorem zrep_get (zs : List AV) : ∀ (n i : Nat), i < n * zs.length → (zrep zs n)[i]? = zs[i % zs.length]?
  | 0, i, h => by simp at h
  | n + 1, i, h => by
    have : zrep zs (n + 1) = zs ++ zrep zs n := by simp [zrep, List.replicate_succ]
    rw [this, List.getElem?_append]
    split
    · rename_i h1; rw [Nat.mod_eq_of_lt h1]
    · rename_i h1
      have e : i = (i - zs.length) + zs.length := by omega
      rw [zrep_get zs n (i - zs.length) (by rw [Nat.succ_mul] at h; omega)]
      congr 1
      conv => rhs; rw [e, Nat.add_mod_right]
theorem rs_zero {β : Bt} {O : Nat → Prop} {w : World} {zs : List AV} {z : Array Value} (h : Rs β O w zs z) (n : Nat) : Rs β O w (zrep zs n) ((Array.range (n * z.size)).map (z[· % z.size]!)) := by
  refine ⟨by simp [zrep_length, h.1], fun i a ha => ?_⟩
  have hi : i < n * zs.length := by
    have := (List.getElem?_eq_some_iff.1 ha).1
    rwa [zrep_length] at this
  rw [zrep_get _ _ _ hi] at ha
  obtain ⟨u, h1, h2⟩ := h.2 _ _ ha
  refine ⟨u, ?_, h2⟩
  have hz := h.1
  rw [← hz] at hi h1
  have h1' : z[i % z.size]! = u := by rw [getElem!_def, h1]
  simp [hi, h1']
def placeA (T : Tab) (k : TK) (i : Nat) : Option (Nat × Nat) :=
  match k with
  | .struct fs => match fs[i]? with
    | some (off, ft) => match T ft with
      | some fi => some (off, fi.size)
      | none => none
    | none => none
  | .array _ e => match T e with
    | some ei => some (i * ei.size, ei.size)
    | none => none
  | .slice e => match T e with
    | some ei => some (i * ei.size, ei.size)
    | none => none
  | _ => none
def buildA (T : Tab) (t : TypeId) (parts : List (Nat × AV)) (K : AV → Prop) : Prop :=
  match T t with
  | some ti =>
    match ti.kind, ti.zero.cells? with
    | .struct fs, some zs => (∀ p ∈ fs, ∃ fi, T p.2 = some fi) ∧ fillK (placeA T (.struct fs)) zs parts fun cs => K (.ag cs)
    | .array n e, some zs => (T e).isSome = true ∧ fillK (placeA T (.array n e)) zs parts fun cs => K (.ag cs)
    | _, _ => False
  | none => False
theorem run_mapM_pure {α γ : Type} (P : Program) (w : World) (f : α → Sem γ) (g : α → γ) : ∀ (l : List α), (∀ x ∈ l, (f x).run P w = .ok (g x) w) → (l.mapM f : Sem (List γ)).run P w = .ok (l.map g) w
  | [], _ => rfl
  | x :: l, h => by
    rw [List.mapM_cons, Sem.run_bind, h x (by simp), Result.andThen_ok, Sem.run_bind, run_mapM_pure P w f g l (fun y hy => h y (by simp [hy]))]
    rfl
theorem parts_map {β : Bt} {O : Nat → Prop} {w : World} {ops : Array (Nat × Operand)} {ev : Operand → Value} (h : ∀ p, p ∈ ops → R β O w (ge p.2) (ev p.2)) :
    (ops.map fun p => (p.1, ev p.2)).toList.length = (ops.toList.map fun p => (p.1, ge p.2)).length ∧
    ∀ (i : Nat) (p : Nat × AV), (ops.toList.map fun p => (p.1, ge p.2))[i]? = some p → ∃ u, (ops.map fun p => (p.1, ev p.2)).toList[i]? = some (p.1, u) ∧ R β O w p.2 u := by
  refine ⟨by simp, fun i p hp => ?_⟩
  simp only [List.getElem?_map, Array.getElem?_toList] at hp
  cases hx : ops[i]? with
  | none => simp [hx] at hp
  | some x =>
    simp [hx] at hp
    subst hp
    exact ⟨ev x.2, by simp [hx], h x (Array.mem_of_getElem? hx)⟩
theorem rs_zero_of {β : Bt} {O : Nat → Prop} {w : World} {z : Value} {zs : List AV} (h : (ofV z).cells? = some zs) : Rs β O w zs z.cells := (R.ofV (β := β) (O := O) (w := w) z).cells h
theorem buildA_ok (hE : EvOk E) {t : TypeId} {parts : Array (Nat × Operand)} (ho : o.op = .build t parts) (h : buildA E.T t (parts.toList.map fun p => (p.1, ge p.2)) K) : ∃ r, StillOk E.P o ge H nx r ∧ K r := by
  unfold buildA at h
  split at h
  · rename_i ti ht
    split at h
    · rename_i fs zs hk hz
      obtain ⟨hfs, h⟩ := h
      obtain ⟨cs, hr, h⟩ := fillK_res h
      refine ⟨_, SameV.ok fun B0 O0 β O w ev hh hB hop => ?_, hr⟩
      obtain ⟨z, z1, z2, z3⟩ := run_zero hE.T ht w
      obtain ⟨gs, g1, g2⟩ := run_und_struct hE.T ht hk w
      obtain ⟨p1, p2⟩ := parts_map (ge := ge) (ev := ev) (β := β) (O := O) (w := w) (ops := parts) (fun p hp => hop p.2 (by simp [ho, Op.operands]; exact ⟨p.1, hp⟩))
      let size : Field → Nat := fun f => match E.T f.type with | some fi => fi.size | none => 0
      have hm : (gs.mapM (fun f => do pure (f.offset, ← sizeOf f.type) : Field → Sem (Nat × Nat))).run E.P w = .ok (gs.map fun f => (f.offset, size f)) w := by
        rw [Array.mapM_eq_mapM_toList, Sem.run_map, run_mapM_pure E.P w _ (fun f => (f.offset, size f)) gs.toList ?_]
        · simp [← Array.toList_map]
        · intro f hf
          obtain ⟨fi, hfi⟩ := hfs (f.offset, f.type) (by rw [g2]; exact List.mem_map.2 ⟨f, hf, rfl⟩)
          simp only [Sem.run_bind, run_size hE.T hfi, Result.andThen_ok, Sem.run_pure, size, hfi]
      obtain ⟨arr, a1, a2⟩ := fill_run (β := β) (O := O) (w := w) (place := placeA E.T (.struct fs)) (place' := fun i => (gs.map fun f => (f.offset, size f))[i]?) (fun i p hp => by
          simp only [placeA, g2, List.getElem?_map, Array.getElem?_toList] at hp
          cases hq : gs[i]? with
          | none => simp [hq] at hp
          | some f =>
            simp only [hq, Option.map_some] at hp
            simp only [Array.getElem?_map, hq, Option.map_some, size]
            cases hft : E.T f.type with
            | none => simp [hft] at hp
            | some fi => simpa [hft] using hp)
        _ _ zs cs z.cells p1 p2 (rs_zero_of (by rw [z2]; exact hz)) h
      refine ⟨.agg arr, ?_, R.mk_ag a2.1 a2.2⟩
      simp only [execOp, ho, Instr.build, Sem.run_bind, z1, Result.andThen_ok, g1]
      erw [hm]
      simp only [Result.andThen_ok]
      erw [a1]
      simp only [Sem.run_pure, Result.andThen_ok]
    · rename_i n e zs hk hz
      obtain ⟨hsome, h⟩ := h
      obtain ⟨cs, hr, h⟩ := fillK_res h
      refine ⟨_, SameV.ok fun B0 O0 β O w ev hh hB hop => ?_, hr⟩
      obtain ⟨z, z1, z2, z3⟩ := run_zero hE.T ht w
      have g1 := run_und_array hE.T ht hk w
      obtain ⟨p1, p2⟩ := parts_map (ge := ge) (ev := ev) (β := β) (O := O) (w := w) (ops := parts) (fun p hp => hop p.2 (by simp [ho, Op.operands]; exact ⟨p.1, hp⟩))
      obtain ⟨ei, hei, hpl⟩ : ∃ m : Nat, (∀ w, (sizeOf e).run E.P w = .ok m w) ∧ ∀ i p, placeA E.T (.array n e) i = some p → p = (i * m, m) := by
        cases he : E.T e with
        | some ei => exact ⟨ei.size, fun w => run_size hE.T he w, fun i p hp => by simp [placeA, he] at hp; exact hp.symm⟩
        | none => simp [he] at hsome
      obtain ⟨arr, a1, a2⟩ := fill_run (β := β) (O := O) (w := w) (place := placeA E.T (.array n e)) (place' := fun i => some (i * ei, ei)) (fun i p hp => by rw [hpl i p hp])
        _ _ zs cs z.cells p1 p2 (rs_zero_of (by rw [z2]; exact hz)) h
      refine ⟨.agg arr, ?_, R.mk_ag a2.1 a2.2⟩
      simp only [execOp, ho, Instr.build, Sem.run_bind, z1, Result.andThen_ok, g1, hei]
      erw [a1]
      simp only [Sem.run_pure, Result.andThen_ok]
    · exact h.elim
  · exact h.elim
end
end Go.Ab
set_option linter.unusedVariables false
set_option linter.unusedSimpArgs false
namespace Go.Ab
variable [Dr]
open Go.RowKit
mutual
def AV.plain : AV → Bool
  | .v _ => true
  | .sl _ _ _ => true
  | .pt _ _ => true
  | .ag cs => plainL cs
  | .tu cs => plainL cs
  | .fn _ cs ds => plainL cs && plainL ds
  | .ic _ x => AV.plain x
  | .lp _ _ => false
  | .ls _ _ _ _ => false
  | .qt _ _ => false
  | .any => false
def plainL : List AV → Bool
  | [] => true
  | a :: l => AV.plain a && plainL l
end
theorem plainL_get : ∀ {cs : List AV}, plainL cs = true → ∀ {i : Nat} {c : AV}, cs[i]? = some c → c.plain = true
  | [], _, i, c, h => by simp at h
  | a :: l, hp, i, c, h => by
    simp only [plainL, Bool.and_eq_true] at hp
    cases i with
    | zero => simp at h; exact h ▸ hp.1
    | succ i => exact plainL_get hp.2 (by simpa using h)
theorem R.plain {β : Bt} {O : Nat → Prop} {w : World} {a : AV} {u : Value} (h : R β O w a u) (hp : a.plain = true) : Rp O w a u := by
  induction h with
  | pl a u h => exact h
  | any u => simp [AV.plain] at hp
  | ag cs us f hs hu hr ih => simp only [AV.plain] at hp; exact .ag cs us f hs hu fun i c hc => ih i c hc (plainL_get hp hc)
  | tu cs us f hs hu hr ih => simp only [AV.plain] at hp; exact .tu cs us f hs hu fun i c hc => ih i c hc (plainL_get hp hc)
  | fn fn cs ds us vs f g hs ht hu hr hv hq ih1 ih2 =>
    simp only [AV.plain, Bool.and_eq_true] at hp
    exact .fn fn cs ds us vs f g hs ht hu (fun i c hc => ih1 i c hc (plainL_get hp.1 hc)) hv (fun i c hc => ih2 i c hc (plainL_get hp.2 hc))
  | ic t x u h ih => simp only [AV.plain] at hp; exact .ic t x u (ih hp)
  | lp k off b st hk => simp [AV.plain] at hp
  | lsn k off sz a hk ha => simp [AV.plain] at hp
  | ls k off sz n b st cap hk hn hsz => simp [AV.plain] at hp
  | qt cs i b off f hO hb hc hr ih => simp [AV.plain] at hp
section
variable {E : Ev} {o : Oper} {ge : Operand → AV} {H : Hp} {nx : Nat} {K : AV → Prop}
theorem HC.fresh_block {B0 : Nat → Prop} {O0 : Nat → Prop} {β : Bt} {O : Nat → Prop} {H : Hp} {nx : Nat} {w : World} (h : HC B0 O0 β O H nx w) (hB : Bk B0 w) : ¬ O w.heap.size := by
  intro hO
  have := h.own.1 _ hO
  omega
theorem gr_alloc (w : World) (ob : Obj) : Gr w (w.alloc ob) := (Gr.refl _).alloc _
theorem cell_alloc (w : World) (arr : Array Value) (e : TypeId) (i : Nat) : (w.alloc (.cells arr e)).cell? ⟨w.heap.size, i, none⟩ = arr[i]? := by
  have h : (w.alloc (.cells arr e)).heap[w.heap.size]? = some (Obj.cells arr e) := by
    show (w.heap.push _)[w.heap.size]? = _
    exact Array.getElem?_push_size
  unfold World.cell?
  rw [h]
  rfl
theorem new_cells {β : Bt} {O : Nat → Prop} {w : World} {cs : List AV} {arr : Array Value} (e : TypeId) (h : Rs β O w cs arr) (hp : plainL cs = true) :
    ∀ (i : Nat) (c : AV), cs[i]? = some c → ∃ x : Value, (w.alloc (.cells arr e)).cell? ⟨w.heap.size, 0 + i, none⟩ = some x ∧ Rp O (w.alloc (.cells arr e)) c x := by
  intro i c hc
  obtain ⟨u, h1, h2⟩ := h.2 i c hc
  exact ⟨u, by rw [Nat.zero_add, cell_alloc, h1], (h2.plain (plainL_get hp hc)).mono (Tr.of_gr (gr_alloc w _))⟩
def buildSlA (T : Tab) (t : TypeId) (len : Nat) (parts : List (Nat × AV)) (K : List AV → Nat → Prop) : Prop :=
  match T t with
  | some ti =>
    match ti.kind with
    | .slice e =>
      match T e with
      | some ei =>
        match ei.zero.cells? with
        | some zs => len * ei.size ≤ 16777216 ∧ zs.length = ei.size ∧ fillK (placeA T (.slice e)) (zrep zs len) parts fun cs => K cs ei.size
        | none => False
      | none => False
    | _ => False
  | none => False
theorem buildSl_run (hE : EvOk E) {t : TypeId} {len : Nat} {parts : Array (Nat × Operand)} {K : List AV → Nat → Prop} (h : buildSlA E.T t len (parts.toList.map fun p => (p.1, ge p.2)) K) :
    ∃ cs sz, K cs sz ∧ cs.length = len * sz ∧ ∀ (β : Bt) (O : Nat → Prop) (w : World) (ev : Operand → Value), (∀ p, p ∈ parts → R β O w (ge p.2) (ev p.2)) →
      ∃ arr e, (Instr.buildSlice t len (parts.map fun (i, x) => (i, ev x))).run E.P w = .ok (.slice (some ⟨w.heap.size, 0, none⟩) len len) (w.alloc (.cells arr e)) ∧ Rs β O w cs arr := by
  unfold buildSlA at h
  split at h
  · rename_i ti ht
    split at h
    · rename_i e hk
      split at h
      · rename_i ei he
        split at h
        · rename_i zs hz
          obtain ⟨hle, hzl, h⟩ := h
          obtain ⟨cs, hr, h⟩ := fillK_res h
          have hlen : ∀ (parts : List (Nat × AV)) (cells : List AV), fillK (placeA E.T (.slice e)) cells parts (fun x => x = cs) → cs.length = cells.length := by
            intro parts
            induction parts with
            | nil => intro cells h; have h : cells = cs := h; rw [h]
            | cons p rest ih =>
              intro cells h
              unfold fillK at h
              split at h
              · rw [ih _ h.2.2, splice_length h.2.1]
              · exact h.elim
          refine ⟨cs, ei.size, hr, by rw [hlen _ _ h, zrep_length, hzl], fun β O w ev hop => ?_⟩
          have hu := run_und_slice hE.T ht hk w
          have hs := run_size hE.T he w
          obtain ⟨z, z1, z2, z3⟩ := run_zero hE.T he w
          obtain ⟨p1, p2⟩ := parts_map (ge := ge) (ev := ev) (β := β) (O := O) (w := w) (ops := parts) hop
          have hzs : Rs β O w zs z.cells := rs_zero_of (by rw [z2]; exact hz)
          have hfill : ∀ (zero : Array Value), (len * ei.size = 0 ∨ zero = z.cells) → Rs β O w (zrep zs len) ((Array.range (len * ei.size)).map (zero[· % zero.size]!)) := by
            intro zero hzz
            rcases hzz with h0 | rfl
            · rw [h0]
              refine ⟨by simp [zrep_length, hzl, h0], fun i a ha => ?_⟩
              have := (List.getElem?_eq_some_iff.1 ha).1
              rw [zrep_length, hzl, h0] at this
              omega
            · have := rs_zero hzs len
              rw [z3] at this ⊢
              exact this
          have hrun : ∀ zero : Array Value, (len * ei.size = 0 ∨ zero = z.cells) → ∃ arr, Instr.fill (fun i => some (i * ei.size, ei.size)) ((Array.range (len * ei.size)).map (zero[· % zero.size]!)) (parts.map fun p => (p.1, ev p.2)).toList = some arr ∧ Rs β O w cs arr := fun zero hzz =>
            fill_run (β := β) (O := O) (w := w) (place := placeA E.T (.slice e)) (place' := fun i => some (i * ei.size, ei.size)) (fun i p hp => by simpa [placeA, he] using hp) _ _ _ cs _ p1 p2 (hfill zero hzz) h
          have hbig : ¬ (len * ei.size > 2 ^ 24) := by simpa using hle
          by_cases h0 : len * ei.size = 0
          · obtain ⟨arr, a1, a2⟩ := hrun #[] (.inl h0)
            refine ⟨arr, e, ?_, a2⟩
            simp only [Instr.buildSlice, Sem.run_bind, hu, Result.andThen_ok, hs, Sem.run_ite, if_neg hbig, Sem.run_pure, if_pos h0]
            erw [a1]
            simp [newRow]
          · obtain ⟨arr, a1, a2⟩ := hrun z.cells (.inr rfl)
            refine ⟨arr, e, ?_, a2⟩
            simp only [Instr.buildSlice, Sem.run_bind, hu, Result.andThen_ok, hs, Sem.run_ite, if_neg hbig, Sem.run_pure, if_neg h0, z1]
            erw [a1]
            simp [newRow]
        · exact h.elim
      · exact h.elim
    · exact h.elim
  · exact h.elim
theorem buildSl_ok (hE : EvOk E) {t : TypeId} {len : Nat} {parts : Array (Nat × Operand)} (ho : o.op = .buildSlice t len parts)
    (h : buildSlA E.T t len (parts.toList.map fun p => (p.1, ge p.2)) fun cs sz => plainL cs = true ∧ K (.sl sz len cs)) : ∃ r, StillOk E.P o ge H nx r ∧ K r := by
  obtain ⟨cs, sz, ⟨hp, hK⟩, hl, hrun⟩ := buildSl_run hE h
  refine ⟨_, fun B0 O0 β O w ev hh hB hop => ?_, hK⟩
  obtain ⟨arr, e, h1, h2⟩ := hrun β O w ev (fun p hp => hop p.2 (by simp [ho, Op.operands]; exact ⟨p.1, hp⟩))
  have : (execOp ev o).run E.P w = .ok (.value (.slice (some ⟨w.heap.size, 0, none⟩) len len)) (w.alloc (.cells arr e)) := by
    simp only [execOp, ho, Sem.run_bind]
    erw [h1]
    rfl
  rw [this]
  exact ⟨gr_alloc _ _, .pl _ _ (Rp.mk_sl (hh.fresh_block hB) (by simp) (Nat.le_refl _) hl (new_cells e h2 hp))⟩
theorem box_ok {e : TypeId} {x : Operand} {cs : List AV} (ho : o.op = .box e x) (hc : (ge x).cells? = some cs) (hp : plainL cs = true) (h : K (.pt cs 0)) : ∃ r, StillOk E.P o ge H nx r ∧ K r := by
  refine ⟨_, fun B0 O0 β O w ev hh hB hop => ?_, h⟩
  have hrs : Rs β O w cs (ev x).cells := (hop x (by simp [ho, Op.operands])).cells hc
  have : (execOp ev o).run E.P w = .ok (.value (.pointer (some ⟨w.heap.size, 0 + 0, none⟩))) (w.alloc (.cells (ev x).cells e)) := by
    simp [execOp, ho, Instr.box, newVar, newRow]
  rw [this]
  exact ⟨gr_alloc _ _, .pl _ _ (Rp.mk_pt (hh.fresh_block hB) (by simp) (new_cells e hrs hp))⟩
theorem alloc_ok (hE : EvOk E) {e : TypeId} {ti : TI} {zs : List AV} (ho : o.op = .alloc e) (ht : E.T e = some ti) (hz : ti.zero.cells? = some zs) (hp : plainL zs = true) (h : K (.pt zs 0)) : ∃ r, StillOk E.P o ge H nx r ∧ K r := by
  refine ⟨_, fun B0 O0 β O w ev hh hB hop => ?_, h⟩
  obtain ⟨z, z1, z2, z3⟩ := run_zero hE.T ht w
  have hrs : Rs β O w zs z.cells := rs_zero_of (by rw [z2]; exact hz)
  have : (execOp ev o).run E.P w = .ok (.value (.pointer (some ⟨w.heap.size, 0 + 0, none⟩))) (w.alloc (.cells z.cells e)) := by
    simp [execOp, ho, Instr.alloc, newVar, newRow, z1]
  rw [this]
  exact ⟨gr_alloc _ _, .pl _ _ (Rp.mk_pt (hh.fresh_block hB) (by simp) (new_cells e hrs hp))⟩
def makeSlA (T : Tab) (t : TypeId) (len cap : AV) (K : List AV → Nat → Nat → Prop) : Prop :=
  match T t with
  | some ti =>
    match ti.kind with
    | .slice e =>
      match T e with
      | some ei =>
        match ei.zero.cells?, len, cap with
        | some zs, .v (.int _ n), .v (.int _ c) => n = c ∧ 0 ≤ n ∧ n * ei.bytes ≤ 140737488355328 ∧ n ≤ 140737488355328 ∧ zs.length = ei.size ∧ K (zrep zs n.toNat) ei.size n.toNat
        | _, _, _ => False
      | none => False
    | _ => False
  | none => False
theorem makeSl_run (hE : EvOk E) {t : TypeId} {len cap : Operand} {K : List AV → Nat → Nat → Prop} (h : makeSlA E.T t (ge len) (ge cap) K) :
    ∃ cs sz n, K cs sz n ∧ cs.length = n * sz ∧ ∀ (β : Bt) (O : Nat → Prop) (w : World) (ev : Operand → Value), R β O w (ge len) (ev len) → R β O w (ge cap) (ev cap) →
      ∃ arr e, (Instr.makeSlice t (ev len) (ev cap)).run E.P w = .ok (.slice (some ⟨w.heap.size, 0, none⟩) n n) (w.alloc (.cells arr e)) ∧ Rs β O w cs arr := by
  unfold makeSlA at h
  split at h
  · rename_i ti ht
    split at h
    · rename_i e hk
      split at h
      · rename_i ei he
        split at h
        · rename_i zs kn n kc c hz hl hc
          obtain ⟨rfl, h0, hb, hn, hzl, h⟩ := h
          refine ⟨_, _, _, h, by rw [zrep_length, hzl], fun β O w ev r1 r2 => ?_⟩
          have e1 := (hl ▸ r1).v_inv
          have e2 := (hc ▸ r2).v_inv
          have hu := run_und_slice hE.T ht hk w
          have hs := run_size hE.T he w
          obtain ⟨inf, i1, i2, i3⟩ := run_info hE.T he w
          obtain ⟨z, z1, z2, z3⟩ := run_zero hE.T he w
          have hzs : Rs β O w zs z.cells := rs_zero_of (by rw [z2]; exact hz)
          have hw : IntKind.i64.wrap n = n := IntWalk.i64_in _ (by omega)
          have hlarge : (decide (n < 0) || decide ((inf.bytes : Int) * n > 2 ^ 48)) = false := by
            rw [i3]
            have : (ei.bytes : Int) * n ≤ 140737488355328 := by rw [Int.mul_comm]; exact hb
            simp; omega
          have hroom : ¬ (n.toNat * inf.bytes > roomBytes) := by
            have hb' : ((n.toNat * inf.bytes : Nat) : Int) ≤ 140737488355328 := by
              rw [Int.natCast_mul, Int.toNat_of_nonneg h0, i3]; exact hb
            simp only [roomBytes]; omega
          have run : ∀ zero : Array Value, ((if n.toNat * ei.size = 0 then pure #[] else do pure (← zeroValue e).cells : Sem (Array Value)).run E.P w = .ok zero w) →
              (Instr.makeSlice t (.int kn n) (.int kc n)).run E.P w = .ok (.slice (some ⟨w.heap.size, 0, none⟩) n.toNat n.toNat) (w.alloc (.cells ((Array.range (n.toNat * ei.size)).map (zero[· % zero.size]!)) e)) := by
            intro zero hz0
            have hnot : ¬ ((decide (n < 0) || decide ((inf.bytes : Int) * n > 2 ^ 48) || decide (n < 0) || decide (n > n)) = true) := by
              rw [hlarge]; simp; omega
            simp only [Instr.makeSlice, asInt, asIntOf, Sem.run_bind, hu, Result.andThen_ok, Sem.run_pure, i1, hw, Sem.run_ite, if_neg hnot, askRoom, if_neg hroom, hs]
            by_cases hq : n.toNat * ei.size = 0
            · simp only [if_pos hq, Sem.run_pure, Result.ok.injEq, and_true] at hz0 ⊢
              subst hz0
              simp [newRow]
            · simp only [if_neg hq, Sem.run_bind, Sem.run_pure, z1, Result.andThen_ok, Result.ok.injEq, and_true] at hz0 ⊢
              subst hz0
              simp [newRow]
          rw [e1, e2]
          by_cases hz0 : n.toNat * ei.size = 0
          · refine ⟨_, e, run #[] (by simp [hz0]), ?_⟩
            rw [hz0]
            refine ⟨by simp [zrep_length, hzl, hz0], fun i a ha => ?_⟩
            have := (List.getElem?_eq_some_iff.1 ha).1
            rw [zrep_length, hzl, hz0] at this
            omega
          · refine ⟨_, e, run z.cells (by simp [hz0, z1]), ?_⟩
            have := rs_zero hzs n.toNat
            rw [z3] at this ⊢
            exact this
        · exact h.elim
      · exact h.elim
    · exact h.elim
  · exact h.elim
theorem makeSl_ok (hE : EvOk E) {t : TypeId} {len cap : Operand} (ho : o.op = .makeSlice t len cap)
    (h : makeSlA E.T t (ge len) (ge cap) fun cs sz n => plainL cs = true ∧ K (.sl sz n cs)) : ∃ r, StillOk E.P o ge H nx r ∧ K r := by
  obtain ⟨cs, sz, n, ⟨hp, hK⟩, hl, hrun⟩ := makeSl_run hE h
  refine ⟨_, fun B0 O0 β O w ev hh hB hop => ?_, hK⟩
  obtain ⟨arr, e, h1, h2⟩ := hrun β O w ev (hop len (by simp [ho, Op.operands])) (hop cap (by simp [ho, Op.operands]))
  have : (execOp ev o).run E.P w = .ok (.value (.slice (some ⟨w.heap.size, 0, none⟩) n n)) (w.alloc (.cells arr e)) := by
    simp only [execOp, ho, Sem.run_bind, h1, Result.andThen_ok, Sem.run_pure]
  rw [this]
  exact ⟨gr_alloc _ _, .pl _ _ (Rp.mk_sl (hh.fresh_block hB) (by simp) (Nat.le_refl _) hl (new_cells e h2 hp))⟩
theorem rs_append {β : Bt} {O : Nat → Prop} {w : World} {xs ys : List AV} {us vs : Array Value} (h : Rs β O w xs us) (k : Rs β O w ys vs) : Rs β O w (xs ++ ys) (us ++ vs) := by
  refine ⟨by simp [h.1, k.1], fun i a ha => ?_⟩
  rw [List.getElem?_append] at ha
  rw [Array.getElem?_append]
  split at ha
  · rename_i hi
    rw [if_pos (by rw [h.1]; exact hi)]
    exact h.2 _ _ ha
  · rename_i hi
    rw [if_neg (by rw [h.1]; exact hi), h.1]
    exact k.2 _ _ ha
def callV (E : Ev) (H : Hp) (nx : Nat) (f : AV) (args : List AV) (K : AV → Prop) : Prop :=
  match f with
  | .fn (.func f) first captured => callS E.P f H nx (first ++ args ++ captured) K
  | _ => False
theorem callV_ok {f : Operand} {args : Array Operand} {ts : Array TypeId} (ho : o.op = .call { callee := .value f, args := args, argTypes := ts }) (h : callV E H nx (ge f) (args.toList.map ge) K) : ∃ r, StillOk E.P o ge H nx r ∧ K r := by
  unfold callV at h
  split at h
  · rename_i fid first captured hf
    obtain ⟨r, ⟨hcan, hcall⟩, hK⟩ := h
    refine ⟨r, fun B0 O0 β O w ev hh hB hop => ?_, hK⟩
    obtain ⟨us, vs, hfv, hs, ht, hu, hv⟩ := (hf ▸ hop f (by simp [ho, Op.operands, Call.operands])).fn_inv
    obtain ⟨a1, a2⟩ := rs_map (ge := ge) (ev := ev) (β := β) (O := O) (w := w) (ops := args) (fun x hx => hop x (by simp [ho, Op.operands, Call.operands, hx]))
    have : (execOp ev o).run E.P w = .ok (.enter fid (us ++ args.map ev ++ vs)) w := by
      have hcan' : ∀ (args : Array Value) (w : World), (callFunc fid args).run E.P w = .ok (.enter fid args) w := hcan
      simp [execOp, ho, resolve, hfv, Deferred.ofValue, invoke, hcan']
    rw [this]
    exact ⟨rfl, hcall B0 O0 β O w _ hh hB (rs_append (rs_append ⟨hs, hu⟩ ⟨a1, a2⟩) ⟨ht, hv⟩)⟩
  · exact h.elim
def callI (E : Ev) (H : Hp) (nx : Nat) (recv : AV) (name : String) (args : List AV) (K : AV → Prop) : Prop :=
  match recv with
  | .ic t x => match E.M t name with
    | some f => callS E.P f H nx (x :: args) K
    | none => False
  | _ => False
theorem callI_ok (hE : EvOk E) {recv : Operand} {name : String} {args : Array Operand} {ts : Array TypeId} (ho : o.op = .call { callee := .invoke recv name, args := args, argTypes := ts })
    (h : callI E H nx (ge recv) name (args.toList.map ge) K) : ∃ r, StillOk E.P o ge H nx r ∧ K r := by
  unfold callI at h
  split at h
  · rename_i t x hx
    split at h
    · rename_i fid hf
      obtain ⟨r, ⟨hcan, hcall⟩, hK⟩ := h
      refine ⟨r, fun B0 O0 β O w ev hh hB hop => ?_, hK⟩
      obtain ⟨y, hy, hxy⟩ := (hx ▸ hop recv (by simp [ho, Op.operands, Call.operands])).ic_inv
      obtain ⟨a1, a2⟩ := rs_map (ge := ge) (ev := ev) (β := β) (O := O) (w := w) (ops := args) (fun x hx => hop x (by simp [ho, Op.operands, Call.operands, hx]))
      have hm := hE.M t name fid hf y w
      have : (execOp ev o).run E.P w = .ok (.enter fid (#[y] ++ args.map ev)) w := by
        have hcan' : ∀ (args : Array Value) (w : World), (callFunc fid args).run E.P w = .ok (.enter fid args) w := hcan
        have h0 : (#[Value.iface t y] ++ args.map ev)[0]? = some (Value.iface t y) := by
          rw [Array.getElem?_append_left (by simp)]
          rfl
        have h1 : (#[Value.iface t y] ++ args.map ev).extract 1 (#[Value.iface t y] ++ args.map ev).size = args.map ev := by
          apply Array.ext_getElem?
          intro i
          rw [Array.getElem?_extract]
          by_cases hi : i < args.size
          · rw [if_pos (by simp; omega), Array.getElem?_append_right (by simp)]; congr 1; simp
          · rw [if_neg (by simp; omega), Array.getElem?_eq_none (by simp; omega)]
        simp only [execOp, ho, resolve, Sem.run_bind, Sem.run_pure, Result.andThen_ok, invoke, hy, h0, h1, callMethod]
        simp only [program, Sem.run, hm, Result.andThen_ok, hcan']
      rw [this]
      refine ⟨rfl, hcall B0 O0 β O w _ hh hB ?_⟩
      exact rs_append (xs := [x]) ⟨rfl, fun i a ha => by cases i with
        | zero => simp at ha; subst ha; exact ⟨y, rfl, hxy⟩
        | succ i => simp at ha⟩ ⟨a1, a2⟩
    · exact h.elim
  · exact h.elim
def sop (E : Ev) (o : Oper) (ge : Operand → AV) (H : Hp) (nx : Nat) (K : AV → Prop) : Prop :=
  match o.op with
  | .move x => K (ge x)
  | .assign x => K (ge x)
  | .pick c a b => pk (ge c) (ge a) (ge b) K
  | .binOp op t x y _ => bop E op t (ge x) (ge y) (nilC y) K
  | .unOp op _ x => uop op (ge x) K
  | .convert src dst x => conv E.T src dst (ge x) K
  | .load t x => loadA E.T H t (ge x) K
  | .fieldAddr s x f => fieldA E.T s (ge x) f K
  | .field s x f => fieldV E.T s (ge x) f K
  | .indexAddr t x ix => indexA E.T t (ge x) (ge ix) K
  | .index t x ix => indexV E.T t (ge x) (ge ix) K
  | .slice t x lo hi none => sliceA E.T t (ge x) (lo.map ge) (hi.map ge) K
  | .extract x i => exA (ge x) i K
  | .nilCheck x => nilA (ge x) K
  | .makeInterface t x => mkIf E.T t (ge x) K
  | .makeFunc f first captured => K (.fn f (first.toList.map ge) (captured.toList.map ge))
  | .build t parts => buildA E.T t (parts.toList.map fun p => (p.1, ge p.2)) K
  | .buildSlice t len parts => buildSlA E.T t len (parts.toList.map fun p => (p.1, ge p.2)) fun cs sz => plainL cs = true ∧ K (.sl sz len cs)
  | .makeSlice t len cap => makeSlA E.T t (ge len) (ge cap) fun cs sz n => plainL cs = true ∧ K (.sl sz n cs)
  | .box _ x => match (ge x).cells? with
    | some cs => plainL cs = true ∧ K (.pt cs 0)
    | none => False
  | .alloc e => match E.T e with
    | some ti => match ti.zero.cells? with
      | some zs => plainL zs = true ∧ K (.pt zs 0)
      | none => False
    | none => False
  | .call c => match c with
    | { callee := .value f, args := args, .. } => callV E H nx (ge f) (args.toList.map ge) K
    | { callee := .invoke r name, args := args, .. } => callI E H nx (ge r) name (args.toList.map ge) K
    | { callee := .builtin b, args := args, argTypes := ts } =>
      match b with
      | .len => match args.toList, ts.toList with
        | [x], [t] => lenA E.T t (ge x) K
        | _, _ => False
      | .max => mmA true (args.toList.map ge) K
      | .min => mmA false (args.toList.map ge) K
      | _ => False
  | _ => False
theorem sop_ok (hE : EvOk E) (h : sop E o ge H nx K) : ∃ r, StillOk E.P o ge H nx r ∧ K r := by
  unfold sop at h
  split at h
  case h_1 ho => exact move_ok (.inl ho) h
  case h_2 ho => exact move_ok (.inr ho) h
  case h_3 ho => exact pk_ok ho h
  case h_4 ho => exact bop_ok hE ho h
  case h_5 ho => exact uop_ok ho h
  case h_6 ho => exact conv_ok hE ho h
  case h_7 ho => exact loadA_ok hE ho h
  case h_8 ho => exact fieldA_ok hE ho h
  case h_9 ho => exact fieldV_ok hE ho h
  case h_10 ho => exact indexA_ok hE ho h
  case h_11 ho => exact indexV_ok hE ho h
  case h_12 ho => exact sliceA_ok hE ho h
  case h_13 ho => exact exA_ok ho h
  case h_14 ho => exact nilA_ok ho h
  case h_15 ho => exact mkIf_ok hE ho h
  case h_16 ho => exact mkFn_ok ho h
  case h_17 ho => exact buildA_ok hE ho h
  case h_18 ho => exact buildSl_ok hE ho h
  case h_19 ho => exact makeSl_ok hE ho h
  case h_20 ho =>
    split at h
    · rename_i cs hc
      exact box_ok ho hc h.1 h.2
    · exact h.elim
  case h_21 ho =>
    split at h
    · rename_i ti ht
      split at h
      · rename_i zs hz
        exact alloc_ok hE ho ht hz h.1 h.2
      · exact h.elim
    · exact h.elim
  case h_22 ho =>
    split at h
    · exact callV_ok ho h
    · exact callI_ok hE ho h
    · rename_i b args ts
      split at h
      · split at h
        · rename_i x t hx ht
          have e1 : args = #[x] := by rw [← Array.toArray_toList (xs := args), hx]
          have e2 : ts = #[t] := by rw [← Array.toArray_toList (xs := ts), ht]
          subst e1 e2
          exact len_ok hE ho h
        · exact h.elim
      · exact mm_ok (.inl ⟨rfl, rfl⟩) ho h
      · exact mm_ok (.inr ⟨rfl, rfl⟩) ho h
      · exact h.elim
  case h_23 => exact h.elim
end
end Go.Ab

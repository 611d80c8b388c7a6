/- The abstract machine, part 10: append. -/
import Derived.Test.YtbobgnkohnbonaaAbMut
set_option linter.unusedVariables false
set_option linter.unusedSimpArgs false
namespace Go.Ab
open Go.RowKit

/-- What the source of an append yields. -/
structure Src (E : Ev) (w : World) (β : Bt) (O : Nat → Prop) (size m : Nat) (cs : List AV) (x : Value) (us : Array Value) : Prop where
  len : ∀ w', (Builtin.lenOf x).run E.P w' = .ok m w'
  cells : ∀ w', (∀ b, b < w.heap.size → w'.heap[b]? = w.heap[b]?) → (Builtin.firstCells size m x).run E.P w' = .ok us w'
  rel : Rs β O w cs us

theorem load_list {E : Ev} {w : World} {b off : Nat} {us : List Value} (h : ∀ (j : Nat) (v : Value), us[j]? = some v → w.cell? ⟨b, off + j, none⟩ = some v) : (loadCells ⟨b, off, none⟩ us.length).run E.P w = .ok us.toArray w :=
  run_loadCells_list (P := E.P) w ⟨b, off, none⟩ us (fun j v hv => by rw [addr_add]; exact h j v hv)

theorem src_block {E : Ev} {w : World} {β : Bt} {O : Nat → Prop} {size m b off cap : Nat} {cs : List AV} (hb : b < w.heap.size) (hl : cs.length = m * size)
    (hc : ∀ (i : Nat) (c : AV), cs[i]? = some c → ∃ x : Value, w.cell? ⟨b, off + i, none⟩ = some x ∧ R β O w c x) : ∃ us, Src E w β O size m cs (.slice (some ⟨b, off, none⟩) m cap) us := by
  obtain ⟨f, hf⟩ := pick_family hc
  let us : List Value := (List.range cs.length).map f
  have hget : ∀ i, i < cs.length → us[i]? = some (f i) := fun i hi => by simp [us, hi]
  have hlen : us.length = m * size := by simp [us, hl]
  refine ⟨us.toArray, fun w' => by simp [Builtin.lenOf], fun w' hw => ?_, ⟨by simp [us], fun i c hi => ?_⟩⟩
  · simp only [Builtin.firstCells]
    have := load_list (E := E) (w := w') (b := b) (off := off) (us := us) (fun j v hv => by
      have hj : j < cs.length := by
        have := (List.getElem?_eq_some_iff.1 hv).1
        simpa [us] using this
      rw [hget j hj] at hv
      cases hv
      rw [World.cell?_of_block (w := w) (a := ⟨b, off + j, none⟩) (hw b hb)]
      exact (hf j cs[j] (List.getElem?_eq_getElem hj)).1)
    rwa [hlen] at this
  · have hj := (List.getElem?_eq_some_iff.1 hi).1
    exact ⟨f i, by simpa using hget i hj, (hf i c hi).2⟩

theorem src_nil {E : Ev} {w : World} {β : Bt} {O : Nat → Prop} {size c : Nat} (a : Option Addr) : Src E w β O size 0 [] (.slice a 0 c) #[] :=
  ⟨fun w' => by simp [Builtin.lenOf], fun w' _ => by
    cases a with
    | none => simp [Builtin.firstCells]
    | some a => simp [Builtin.firstCells, loadCells, loadCellsFrom], ⟨rfl, fun i c h => by simp at h⟩⟩

theorem run_choose_cap (P : Program) (w : World) (need old : Nat) (e : TypeId) (h : need < 2 ^ 63) : ∃ c, need ≤ c ∧ (choose (.appendCap need old e)).run P w = .ok c w.drew := by
  refine ⟨need + w.tape w.drawn (.appendCap need old e) % (2 ^ 63 - need), Nat.le_add_right _ _, ?_⟩
  simp [choose, Sem.run, Question.forced, Question.cut]

theorem run_askRoom (P : Program) (w : World) (n : Nat) : (askRoom n).run P w = .ok () w := by
  unfold askRoom mark
  split <;> rfl

/-- append that fits: the cells are written behind the slice's own. -/
theorem run_append_fits {E : Ev} (hE : EvOk E) {t t' e : TypeId} {ti ti' ei : TI} (ht : E.T t = some ti) (hk : ti.kind = .slice e) (he : E.T e = some ei) (ht' : E.T t' = some ti') (hk' : ∃ e', ti'.kind = .slice e')
    {w : World} {β : Bt} {O : Nat → Prop} {n m cap b st : Nat} {cs : List AV} {x : Value} {us : Array Value} (hs : Src E w β O ei.size m cs x us) (hfit : n + m ≤ cap)
    {old : Array Value} {et : TypeId} (hb : w.heap[b]? = some (Obj.cells old et (0, 0))) (hroom : st + n * ei.size + us.size ≤ old.size) (h1 : ∀ u ∈ us.toList, u.oneCell' = true) (ty : TypeId) :
    (Builtin.append_ #[t, t'] ty #[.slice (some ⟨b, st, none⟩) n cap, x]).run E.P w =
      .ok (.slice (some ⟨b, st, none⟩) (n + m) cap) (w.setRow b (old.toList.take (st + n * ei.size) ++ us.toList ++ old.toList.drop (st + n * ei.size + us.toList.length)).toArray) := by
  have hu := run_und_slice hE.T ht hk w
  obtain ⟨e', hk'⟩ := hk'
  have hu' := run_und_slice hE.T ht' hk' w
  have hz := run_size hE.T he w
  have hl := hs.len w
  have hc := hs.cells w (fun _ _ => rfl)
  have hst := run_storeCells_at (P := E.P) b (st + n * ei.size) et us.toList 0 old w hb (by simp; omega) h1
  simp only [Nat.add_zero] at hst
  simp [Builtin.append_, hu, hu', hz, hl, hc, hfit, addr_add, hst]

/-- append that grows: a new block. -/
theorem run_append_grows {E : Ev} (hE : EvOk E) {t t' e : TypeId} {ti ti' ei : TI} (ht : E.T t = some ti) (hk : ti.kind = .slice e) (he : E.T e = some ei) (ht' : E.T t' = some ti') (hk' : ∃ e', ti'.kind = .slice e')
    {w : World} {β : Bt} {O : Nat → Prop} {n m cap : Nat} {cs ds : List AV} {base : Option Addr} {x : Value} {us vs : Array Value} (hs : Src E w β O ei.size m cs x us) (ho : Src E w β O ei.size n ds (.slice base n cap) vs) (hgrow : ¬ n + m ≤ cap)
    (hbytes : (n + m) * ei.bytes ≤ 140737488355328) (hnm : n + m ≤ 140737488355328) (ty : TypeId) :
    ∃ c rest, n + m ≤ c ∧ rest.size = (c - (n + m)) * ei.size ∧ (Builtin.append_ #[t, t'] ty #[.slice base n cap, x]).run E.P w =
      .ok (.slice (some ⟨w.heap.size, 0, none⟩) (n + m) c) (w.drew.alloc (.cells (vs ++ us ++ rest) e)) := by
  have hu := run_und_slice hE.T ht hk w
  obtain ⟨e', hk'⟩ := hk'
  have hu' := run_und_slice hE.T ht' hk' w
  have hz := run_size hE.T he w
  have hl := hs.len w
  obtain ⟨inf, i1, i2, i3⟩ := run_info hE.T he w
  have i4 : (typeInfo e).run E.P w.drew = .ok inf w.drew := by
    obtain ⟨inf', j1, j2, j3⟩ := run_info hE.T he w.drew
    have : inf' = inf := by
      simp only [typeInfo, program, Sem.run_bind, Sem.run, Result.andThen_ok] at i1 j1
      cases hq : E.P.info? e with
      | none => simp [hq, stuck] at i1
      | some q => simp [hq] at i1 j1; rw [← i1, ← j1]
    rw [← this]; exact j1
  obtain ⟨c, hc1, hc2⟩ := run_choose_cap E.P w (n + m) cap e (by omega)
  have hcs := hs.cells w.drew (fun _ _ => rfl)
  have hco := ho.cells w.drew (fun _ _ => rfl)
  obtain ⟨z, z1, z2, z3⟩ := run_zero hE.T he w.drew
  have hbig : ¬ (Builtin.nextslicecap (n + m) cap * inf.bytes > 2 ^ 48) := by
    have := growslice_fits (need := n + m) (old := cap) (bytes := inf.bytes) (by omega) (by rw [i3]; exact hbytes)
    omega
  have hno : ¬ (((n + m : Nat) : Int) > IntKind.i64.max) := by
    simp [IntKind.max, IntKind.signed, IntKind.bits]; omega
  refine ⟨c, Builtin.zeroCells z.cells (c - (n + m)), hc1, by simp [Builtin.zeroCells, z3], ?_⟩
  have hcond : ¬ (((n + m : Nat) : Int) > IntKind.i64.max ∧ inf.bytes = 0) := fun h => hno h.1
  simp only [Builtin.append_, Sem.run_bind, List.getElem?_toArray, List.getElem?_cons_zero, List.getElem?_cons_succ, hu, hu', Result.andThen_ok, hz, Sem.run_pure, if_false, hl, if_neg hgrow, Sem.run_ite, Bool.not_false, if_true]
  simp only [Bool.false_eq_true, if_false, hl, Result.andThen_ok, if_neg hgrow, false_or, i1, if_neg hcond, if_neg hbig, hc2, i4, run_askRoom, hco, hcs, z1]
  simp [newRow]

end Go.Ab

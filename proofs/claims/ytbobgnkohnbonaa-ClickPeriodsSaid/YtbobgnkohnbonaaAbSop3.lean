/- The abstract machine, part 5: values that are put together, new memory that nobody writes, calls; all still operations together. -/
import Derived.Test.YtbobgnkohnbonaaAbSop2
set_option linter.unusedVariables false
set_option linter.unusedSimpArgs false
namespace Go.Ab
open Go.RowKit
section
variable {E : Ev} {o : Oper} {ge : Operand → AV} {H : Hp} {nx : Nat} {K : AV → Prop}

def splice (cs : List AV) (i : Nat) (xs : List AV) : List AV := cs.take i ++ (xs ++ cs.drop (i + xs.length))

theorem splice_length {cs : List AV} {i : Nat} {xs : List AV} (h : i + xs.length ≤ cs.length) : (splice cs i xs).length = cs.length := by
  simp [splice]; omega

theorem splice_get {cs : List AV} {i : Nat} {xs : List AV} (h : i + xs.length ≤ cs.length) (j : Nat) :
    (splice cs i xs)[j]? = if i ≤ j ∧ j < i + xs.length then xs[j - i]? else cs[j]? := by
  unfold splice
  rw [List.getElem?_append]
  have hl : (cs.take i).length = i := by simp; omega
  rw [hl]
  split
  · rw [if_neg (by omega), List.getElem?_take_of_lt (by omega)]
  · rw [List.getElem?_append]
    split
    · rw [if_pos (by omega)]
    · rw [if_neg (by omega), List.getElem?_drop]
      congr 1
      omega

theorem fold_set_size (off : Nat) : ∀ (l : List (Value × Nat)) (arr : Array Value), (l.foldl (fun cs p => cs.setIfInBounds (off + p.2) p.1) arr).size = arr.size
  | [], arr => rfl
  | p :: l, arr => by rw [List.foldl_cons, fold_set_size off l]; simp

theorem fold_set (off : Nat) : ∀ (l : List Value) (k : Nat) (arr : Array Value) (j : Nat), off + k + l.length ≤ arr.size →
    ((l.zipIdx k).foldl (fun cs p => cs.setIfInBounds (off + p.2) p.1) arr)[j]? = if off + k ≤ j ∧ j < off + k + l.length then l[j - (off + k)]? else arr[j]?
  | [], k, arr, j, h => by simp only [List.zipIdx_nil, List.foldl_nil, List.length_nil]; rw [if_neg (by omega)]
  | v :: l, k, arr, j, h => by
    simp only [List.length_cons] at h
    rw [List.zipIdx_cons, List.foldl_cons, fold_set off l (k + 1) _ j (by simp; omega)]
    by_cases hj : j = off + k
    · subst hj
      rw [if_neg (by omega), if_pos (by simp), Nat.sub_self]
      simp only [List.getElem?_cons_zero]
      rw [Array.getElem?_setIfInBounds_self_of_lt (by omega)]
    · by_cases h2 : off + k ≤ j ∧ j < off + k + (l.length + 1)
      · rw [if_pos (by omega), if_pos (by simpa using h2)]
        obtain ⟨d, hd⟩ : ∃ d, j = off + k + (d + 1) := ⟨j - (off + k) - 1, by omega⟩
        subst hd
        have e1 : off + k + (d + 1) - (off + (k + 1)) = d := by omega
        have e2 : off + k + (d + 1) - (off + k) = d + 1 := by omega
        rw [e1, e2]; simp
      · rw [if_neg (by omega), if_neg (by simpa using h2)]
        simp only []
        rw [Array.getElem?_setIfInBounds_ne (by omega)]

theorem rs_splice {β : Bt} {O : Nat → Prop} {w : World} {cs xs : List AV} {arr vs : Array Value} {off : Nat} (h : Rs β O w cs arr) (hx : Rs β O w xs vs) (hl : off + xs.length ≤ cs.length) :
    Rs β O w (splice cs off xs) (vs.zipIdx.foldl (fun cs (c, j) => cs.setIfInBounds (off + j) c) arr) := by
  have e : vs.zipIdx.foldl (fun cs (c, j) => cs.setIfInBounds (off + j) c) arr = (vs.toList.zipIdx 0).foldl (fun cs p => cs.setIfInBounds (off + p.2) p.1) arr := by
    rw [← Array.foldl_toList, Array.toList_zipIdx]
  rw [e]
  have hvs : vs.toList.length = xs.length := by simpa using hx.1
  refine ⟨by rw [fold_set_size, splice_length hl, h.1], fun i a ha => ?_⟩
  rw [splice_get hl] at ha
  rw [fold_set off vs.toList 0 arr i (by rw [hvs, h.1]; omega), hvs, Nat.add_zero]
  split at ha
  · rename_i hc
    rw [if_pos hc]
    obtain ⟨u, h1, h2⟩ := hx.2 _ _ ha
    exact ⟨u, by simpa using h1, h2⟩
  · rename_i hc
    rw [if_neg hc]
    exact h.2 _ _ ha

def fillK (place : Nat → Option (Nat × Nat)) (cells : List AV) : List (Nat × AV) → (List AV → Prop) → Prop
  | [], K => K cells
  | p :: rest, K =>
    match place p.1, p.2.cells? with
    | some (off, size), some cs => cs.length = size ∧ off + cs.length ≤ cells.length ∧ fillK place (splice cells off cs) rest K
    | _, _ => False

theorem fillK_res {place : Nat → Option (Nat × Nat)} : ∀ {parts : List (Nat × AV)} {cells : List AV} {K : List AV → Prop}, fillK place cells parts K → ∃ cs, K cs ∧ fillK place cells parts (fun x => x = cs)
  | [], cells, K, h => ⟨cells, h, rfl⟩
  | p :: rest, cells, K, h => by
    unfold fillK at h ⊢
    split at h
    · obtain ⟨h1, h2, h⟩ := h
      obtain ⟨cs, h3, h4⟩ := fillK_res h
      exact ⟨cs, h3, h1, h2, h4⟩
    · exact h.elim

theorem fill_run {β : Bt} {O : Nat → Prop} {w : World} {place place' : Nat → Option (Nat × Nat)} (hp : ∀ i p, place i = some p → place' i = some p) :
    ∀ (parts : List (Nat × AV)) (vparts : List (Nat × Value)) (cells cs : List AV) (arr : Array Value), vparts.length = parts.length → (∀ (i : Nat) (p : Nat × AV), parts[i]? = some p → ∃ u, vparts[i]? = some (p.1, u) ∧ R β O w p.2 u) →
      Rs β O w cells arr → fillK place cells parts (fun x => x = cs) → ∃ arr', Instr.fill place' arr vparts = some arr' ∧ Rs β O w cs arr'
  | [], vparts, cells, cs, arr, hl, _, h, hf => by
    have : vparts = [] := List.length_eq_zero_iff.1 (by simpa using hl)
    subst this
    have hf : cells = cs := hf
    subst hf
    exact ⟨arr, rfl, h⟩
  | p :: rest, vparts, cells, cs, arr, hl, hu, h, hf => by
    cases vparts with
    | nil => simp at hl
    | cons v vrest =>
      obtain ⟨u, h1, h2⟩ := hu 0 p rfl
      simp at h1
      subst h1
      unfold fillK at hf
      split at hf
      · rename_i off size xs hpl hcs
        obtain ⟨e1, e2, hf⟩ := hf
        have hc := h2.cells hcs
        have hrs := rs_splice (off := off) h (xs := xs) (vs := u.cells) hc e2
        obtain ⟨arr', g1, g2⟩ := fill_run hp rest vrest _ cs _ (by simpa using hl) (fun i q hq => by simpa using hu (i + 1) q (by simpa using hq)) hrs hf
        refine ⟨arr', ?_, g2⟩
        rw [Instr.fill, hp _ _ hpl]
        have n1 : ¬ (u.cells.size ≠ size || off + u.cells.size > arr.size) = true := by
          have := h.1
          simp [hc.1, e1]; omega
        simp only [n1]
        exact g1
      · exact hf.elim

/-- Zero values, one behind the other. -/
def zrep (zs : List AV) (n : Nat) : List AV := (List.replicate n zs).flatten

theorem zrep_length (zs : List AV) (n : Nat) : (zrep zs n).length = n * zs.length := by
  simp [zrep]

theorem zrep_get (zs : List AV) : ∀ (n i : Nat), i < n * zs.length → (zrep zs n)[i]? = zs[i % zs.length]?
  | 0, i, h => by simp at h
  | n + 1, i, h => by
    have : zrep zs (n + 1) = zs ++ zrep zs n := by simp [zrep, List.replicate_succ]
    rw [this, List.getElem?_append]
    split
    · rename_i h1; rw [Nat.mod_eq_of_lt h1]
    · rename_i h1
      have e : i = (i - zs.length) + zs.length := by omega
      rw [zrep_get zs n (i - zs.length) (by rw [Nat.succ_mul] at h; omega)]
      congr 1
      conv => rhs; rw [e, Nat.add_mod_right]

theorem rs_zero {β : Bt} {O : Nat → Prop} {w : World} {zs : List AV} {z : Array Value} (h : Rs β O w zs z) (n : Nat) : Rs β O w (zrep zs n) ((Array.range (n * z.size)).map (z[· % z.size]!)) := by
  refine ⟨by simp [zrep_length, h.1], fun i a ha => ?_⟩
  have hi : i < n * zs.length := by
    have := (List.getElem?_eq_some_iff.1 ha).1
    rwa [zrep_length] at this
  rw [zrep_get _ _ _ hi] at ha
  obtain ⟨u, h1, h2⟩ := h.2 _ _ ha
  refine ⟨u, ?_, h2⟩
  have hz := h.1
  rw [← hz] at hi h1
  have h1' : z[i % z.size]! = u := by rw [getElem!_def, h1]
  simp [hi, h1']

def placeA (T : Tab) (k : TK) (i : Nat) : Option (Nat × Nat) :=
  match k with
  | .struct fs => match fs[i]? with
    | some (off, ft) => match T ft with
      | some fi => some (off, fi.size)
      | none => none
    | none => none
  | .array _ e => match T e with
    | some ei => some (i * ei.size, ei.size)
    | none => none
  | .slice e => match T e with
    | some ei => some (i * ei.size, ei.size)
    | none => none
  | _ => none

def buildA (T : Tab) (t : TypeId) (parts : List (Nat × AV)) (K : AV → Prop) : Prop :=
  match T t with
  | some ti =>
    match ti.kind, ti.zero.cells? with
    | .struct fs, some zs => (∀ p ∈ fs, ∃ fi, T p.2 = some fi) ∧ fillK (placeA T (.struct fs)) zs parts fun cs => K (.ag cs)
    | .array n e, some zs => (T e).isSome = true ∧ fillK (placeA T (.array n e)) zs parts fun cs => K (.ag cs)
    | _, _ => False
  | none => False

theorem run_mapM_pure {α γ : Type} (P : Program) (w : World) (f : α → Sem γ) (g : α → γ) : ∀ (l : List α), (∀ x ∈ l, (f x).run P w = .ok (g x) w) → (l.mapM f : Sem (List γ)).run P w = .ok (l.map g) w
  | [], _ => rfl
  | x :: l, h => by
    rw [List.mapM_cons, Sem.run_bind, h x (by simp), Result.andThen_ok, Sem.run_bind, run_mapM_pure P w f g l (fun y hy => h y (by simp [hy]))]
    rfl

theorem parts_map {β : Bt} {O : Nat → Prop} {w : World} {ops : Array (Nat × Operand)} {ev : Operand → Value} (h : ∀ p, p ∈ ops → R β O w (ge p.2) (ev p.2)) :
    (ops.map fun p => (p.1, ev p.2)).toList.length = (ops.toList.map fun p => (p.1, ge p.2)).length ∧
    ∀ (i : Nat) (p : Nat × AV), (ops.toList.map fun p => (p.1, ge p.2))[i]? = some p → ∃ u, (ops.map fun p => (p.1, ev p.2)).toList[i]? = some (p.1, u) ∧ R β O w p.2 u := by
  refine ⟨by simp, fun i p hp => ?_⟩
  simp only [List.getElem?_map, Array.getElem?_toList] at hp
  cases hx : ops[i]? with
  | none => simp [hx] at hp
  | some x =>
    simp [hx] at hp
    subst hp
    exact ⟨ev x.2, by simp [hx], h x (Array.mem_of_getElem? hx)⟩

theorem rs_zero_of {β : Bt} {O : Nat → Prop} {w : World} {z : Value} {zs : List AV} (h : (ofV z).cells? = some zs) : Rs β O w zs z.cells := (R.ofV (β := β) (O := O) (w := w) z).cells h

theorem buildA_ok (hE : EvOk E) {t : TypeId} {parts : Array (Nat × Operand)} (ho : o.op = .build t parts) (h : buildA E.T t (parts.toList.map fun p => (p.1, ge p.2)) K) : ∃ r, StillOk E.P o ge H nx r ∧ K r := by
  unfold buildA at h
  split at h
  · rename_i ti ht
    split at h
    · rename_i fs zs hk hz
      obtain ⟨hfs, h⟩ := h
      obtain ⟨cs, hr, h⟩ := fillK_res h
      refine ⟨_, SameV.ok fun B0 O0 β O w ev hh hB hop => ?_, hr⟩
      obtain ⟨z, z1, z2, z3⟩ := run_zero hE.T ht w
      obtain ⟨gs, g1, g2⟩ := run_und_struct hE.T ht hk w
      obtain ⟨p1, p2⟩ := parts_map (ge := ge) (ev := ev) (β := β) (O := O) (w := w) (ops := parts) (fun p hp => hop p.2 (by simp [ho, Op.operands]; exact ⟨p.1, hp⟩))
      let size : Field → Nat := fun f => match E.T f.type with | some fi => fi.size | none => 0
      have hm : (gs.mapM (fun f => do pure (f.offset, ← sizeOf f.type) : Field → Sem (Nat × Nat))).run E.P w = .ok (gs.map fun f => (f.offset, size f)) w := by
        rw [Array.mapM_eq_mapM_toList, Sem.run_map, run_mapM_pure E.P w _ (fun f => (f.offset, size f)) gs.toList ?_]
        · simp [← Array.toList_map]
        · intro f hf
          obtain ⟨fi, hfi⟩ := hfs (f.offset, f.type) (by rw [g2]; exact List.mem_map.2 ⟨f, hf, rfl⟩)
          simp only [Sem.run_bind, run_size hE.T hfi, Result.andThen_ok, Sem.run_pure, size, hfi]
      obtain ⟨arr, a1, a2⟩ := fill_run (β := β) (O := O) (w := w) (place := placeA E.T (.struct fs)) (place' := fun i => (gs.map fun f => (f.offset, size f))[i]?) (fun i p hp => by
          simp only [placeA, g2, List.getElem?_map, Array.getElem?_toList] at hp
          cases hq : gs[i]? with
          | none => simp [hq] at hp
          | some f =>
            simp only [hq, Option.map_some] at hp
            simp only [Array.getElem?_map, hq, Option.map_some, size]
            cases hft : E.T f.type with
            | none => simp [hft] at hp
            | some fi => simpa [hft] using hp)
        _ _ zs cs z.cells p1 p2 (rs_zero_of (by rw [z2]; exact hz)) h
      refine ⟨.agg arr, ?_, R.mk_ag a2.1 a2.2⟩
      simp only [execOp, ho, Instr.build, Sem.run_bind, z1, Result.andThen_ok, g1]
      erw [hm]
      simp only [Result.andThen_ok]
      erw [a1]
      simp only [Sem.run_pure, Result.andThen_ok]
    · rename_i n e zs hk hz
      obtain ⟨hsome, h⟩ := h
      obtain ⟨cs, hr, h⟩ := fillK_res h
      refine ⟨_, SameV.ok fun B0 O0 β O w ev hh hB hop => ?_, hr⟩
      obtain ⟨z, z1, z2, z3⟩ := run_zero hE.T ht w
      have g1 := run_und_array hE.T ht hk w
      obtain ⟨p1, p2⟩ := parts_map (ge := ge) (ev := ev) (β := β) (O := O) (w := w) (ops := parts) (fun p hp => hop p.2 (by simp [ho, Op.operands]; exact ⟨p.1, hp⟩))
      obtain ⟨ei, hei, hpl⟩ : ∃ m : Nat, (∀ w, (sizeOf e).run E.P w = .ok m w) ∧ ∀ i p, placeA E.T (.array n e) i = some p → p = (i * m, m) := by
        cases he : E.T e with
        | some ei => exact ⟨ei.size, fun w => run_size hE.T he w, fun i p hp => by simp [placeA, he] at hp; exact hp.symm⟩
        | none => simp [he] at hsome
      obtain ⟨arr, a1, a2⟩ := fill_run (β := β) (O := O) (w := w) (place := placeA E.T (.array n e)) (place' := fun i => some (i * ei, ei)) (fun i p hp => by rw [hpl i p hp])
        _ _ zs cs z.cells p1 p2 (rs_zero_of (by rw [z2]; exact hz)) h
      refine ⟨.agg arr, ?_, R.mk_ag a2.1 a2.2⟩
      simp only [execOp, ho, Instr.build, Sem.run_bind, z1, Result.andThen_ok, g1, hei]
      erw [a1]
      simp only [Sem.run_pure, Result.andThen_ok]
    · exact h.elim
  · exact h.elim

end
end Go.Ab

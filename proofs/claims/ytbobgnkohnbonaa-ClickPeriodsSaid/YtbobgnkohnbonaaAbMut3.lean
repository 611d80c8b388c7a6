/- The abstract machine, part 11: the writing operations. -/
import Derived.Test.YtbobgnkohnbonaaAbMut2
set_option linter.unusedSimpArgs false
set_option linter.unusedVariables false
namespace Go.Ab
open Go.RowKit

def inMu (mu : List Nat) (d : Option Nat) : Bool :=
  match d with
  | some d => mu.elem d
  | none => false

def isMut (mu : List Nat) (o : Oper) : Bool :=
  match o.op with
  | .store _ _ _ => true
  | .alloc _ => inMu mu o.dst
  | .box _ _ => inMu mu o.dst
  | .buildSlice _ _ _ => inMu mu o.dst
  | .makeSlice _ _ _ => inMu mu o.dst
  | .assign (.const (.slice none 0 0)) => inMu mu o.dst
  | .slice _ _ _ _ _ => inMu mu o.dst
  | .call c => match c.callee with
    | .builtin .append => true
    | .builtin .copy => true
    | .builtin _ => false
    | .value _ => inMu mu o.dst
    | .invoke _ _ => false
  | _ => false

/-- The elements of a slice. -/
def elems (H : Hp) (x : AV) (K : Nat → List AV → Prop) : Prop :=
  match x with
  | .sl sz m cs => K m cs
  | .ls k off sz m => match H k with
    | some c => off + m * sz ≤ c.length ∧ K m ((c.drop off).take (m * sz))
    | none => False
  | .v (.slice none 0 0) => K 0 []
  | _ => False

def newRow (σ : St) (d : Option Nat) (c : List AV) (r : Nat → AV) : St := { σ with hp := hset σ.hp σ.nx (some c), nx := σ.nx + 1 }.put d (r σ.nx)

def appendA (E : Ev) (σ : St) (d : Option Nat) (t t' : TypeId) (s x : AV) (K : St → Prop) : Prop :=
  match E.T t, E.T t' with
  | some ti, some ti' =>
    match ti.kind, ti'.kind with
    | .slice e, .slice e' =>
      match E.T e, s with
      | some ei, .ls k off sz n =>
        match σ.hp k with
        | some c =>
          sz = ei.size ∧ off + n * sz ≤ c.length ∧ elems σ.hp x fun m cs => cs.length = m * sz ∧ oneL ((c.drop off).take (n * sz)) = true ∧ oneL cs = true ∧ (n + m) * ei.bytes ≤ 140737488355328 ∧ n + m ≤ 140737488355328 ∧
            K (newRow { σ with hp := hset σ.hp k none } d ((c.drop off).take (n * sz) ++ cs) fun j => .ls j 0 sz (n + m))
        | none => False
      | _, _ => False
    | _, _ => False
  | _, _ => False

/-- A call that is walked into, or whose contract speaks of local rows: the result, and the rows behind it. -/
def CallM (P : Program) (f : FuncId) (H : Hp) (nx : Nat) (avs : List AV) (K : AV → Hp → Nat → Prop) : Prop :=
  Callable P f ∧ ∀ (g : Gh) (β : Bt) (O : Nat → Prop) (w : World) (vs : Array Value), HC g.B0 g.O0 β O H nx w → Bk g.B0 w → Rs β O w avs vs →
    Calls P f vs w (fun e w' => ∃ u r H' nx' β' O', e = .returned u ∧ K r H' nx' ∧ HC g.B0 g.O0 β' O' H' nx' w' ∧ Pr g.B0 O w O' w' ∧ R β' O' w' r u ∧ Tr O w O' w' ∧ (∀ k p, β k = some p → β' k = some p))
@[congr] theorem CallM_congr {P : Program} {f : FuncId} {H : Hp} {nx : Nat} {avs avs' : List AV} {K : AV → Hp → Nat → Prop} (h : avs = avs') : CallM P f H nx avs K = CallM P f H nx avs' K := by rw [h]

/-- What follows such a call. -/
def cmK (σ : St) (d : Option Nat) (K : St → Prop) (r : AV) (H' : Hp) (nx' : Nat) : Prop := K ({ σ with hp := H', nx := nx' }.put d r)

/-- A round is asked for. -/
def yldA (E : Ev) (σ : St) (d : Option Nat) (l : Nat) (us vs : Array Value) (avs : List AV) (K : St → Prop) : Prop :=
  match E.Y with
  | some y => l = y.l ∧ us = #[] ∧ vs = #[] ∧ y.ys σ.n.2.2 = some avs ∧ plainL avs = true ∧ K (({ σ with n := (σ.n.1, σ.n.2.1, σ.n.2.2 + 1) } : St).put d (.v (.bool true)))
  | none => False

def mop (E : Ev) (o : Oper) (σ : St) (K : St → Prop) : Prop :=
  match o.op with
  | .store t a x => match E.T t, σ.ge a, (σ.ge x).cells? with
    | some ti, .lp k off, some cs => match σ.hp k with
      | some c => cs.length = ti.size ∧ oneL cs = true ∧ off + cs.length ≤ c.length ∧ K ({ σ with hp := hset σ.hp k (some (splice c off cs)) }.put o.dst (.v undef))
      | none => False
    | _, _, _ => False
  | .alloc e => match E.T e with
    | some ti => match ti.zero.cells? with
      | some zs => K (newRow σ o.dst zs fun j => .lp j 0)
      | none => False
    | none => False
  | .box _ x => match (σ.ge x).cells? with
    | some cs => K (newRow σ o.dst cs fun j => .lp j 0)
    | none => False
  | .buildSlice t len parts => buildSlA E.T t len (parts.toList.map fun p => (p.1, σ.ge p.2)) fun cs sz => K (newRow σ o.dst cs fun j => .ls j 0 sz len)
  | .makeSlice t len cap => makeSlA E.T t (σ.ge len) (σ.ge cap) fun cs sz n => K (newRow σ o.dst cs fun j => .ls j 0 sz n)
  | .assign (.const (.slice none 0 0)) => match E.T o.type with
    | some ti => match ti.kind with
      | .slice e => match E.T e with
        | some ei => K (newRow σ o.dst [] fun j => .ls j 0 ei.size 0)
        | none => False
      | _ => False
    | none => False
  | .slice t x none (some (.const (.int .i64 0))) (some (.const (.int .i64 0))) => match E.T t with
    | some ti => match ti.kind, σ.ge x with
      | .slice e, .sl sz n cs => match E.T e with
        | some ei => K (newRow σ o.dst [] fun j => .ls j 0 ei.size 0)
        | none => False
      | _, _ => False
    | none => False
  | .call c => match c with
    | { callee := .builtin .append, args := args, argTypes := ts } => match args.toList, ts.toList with
      | [s, x], [t, t'] => appendA E σ o.dst t t' (σ.ge s) (σ.ge x) K
      | _, _ => False
    | { callee := .value f, args := args, .. } => match σ.ge f with
      | .fn (.func fid) first captured => CallM E.P fid σ.hp σ.nx (first ++ args.toList.map σ.ge ++ captured) (cmK σ o.dst K)
      | .v (.func (.yield l) us vs) => yldA E σ o.dst l us vs (args.toList.map σ.ge) K
      | _ => False
    | _ => False
  | _ => False

section
variable {E : Ev} {o : Oper} {σ : St} {K : St → Prop} {g : Gh} {β : Bt} {O : Nat → Prop} {a : Act} {w : World} {Q : Exit → Act → World → Prop}

/-- What is to be shown of a writing operation. -/
abbrev MOk (E : Ev) (o : Oper) (n : Nat × Nat × Nat) (K : St → Prop) (g : Gh) (a : Act) (w : World) (Q : Exit → Act → World → Prop) : Prop :=
  o.wpIn (Fn E.ro) 0 E.P a w (fun a' w' => ∃ β' O' σ', K σ' ∧ σ'.n = n ∧ Cn g β' O' σ' a' w') Q

theorem put_n (σ : St) (d : Option Nat) (r : AV) : (σ.put d r).n = σ.n := by cases d <;> rfl
theorem newRow_n (σ : St) (d : Option Nat) (c : List AV) (r : Nat → AV) : (newRow σ d c r).n = σ.n := put_n _ _ _

theorem mok_value {n : Nat × Nat × Nat} {u : Value} {w' : World} (hrun : (execOp a.eval o).run E.P w = .ok (.value u) w') (h : ∃ β' O' σ', K σ' ∧ σ'.n = n ∧ Cn g β' O' σ' (a.put o.dst u) w') : MOk E o n K g a w Q := by
  refine wpIn_run ?_
  rw [hrun]
  exact h

theorem newRow_cn {β' : Bt} {O' : Nat → Prop} {σ' : St} {c : List AV} {r : Nat → AV} {a' : Act} {w' : World} {d : Option Nat} :
    Cn g β' O' (newRow σ' d c r) a' w' ↔ Cf g β' O' (updF (lk σ'.fr) d (r σ'.nx)) (hset σ'.hp σ'.nx (some c)) (σ'.nx + 1) σ'.n a' w' := by
  unfold newRow Cn
  rw [lk_put]
  cases d <;> exact Iff.rfl

theorem new_ok (h : Cn g β O σ a w) (hd : dOk σ.n o.dst) {c : List AV} {arr : Array Value} {e : TypeId} (hl : c.length ≤ arr.size) (hc : ∀ (j : Nat) (x : AV), c[j]? = some x → ∃ u, arr[j]? = some u ∧ R β O w x u)
    {r : Nat → AV} {u : Value} (hr : ∀ (β' : Bt) (O' : Nat → Prop), β' σ.nx = some (some (w.heap.size, 0)) → (w.alloc (.cells arr e)).heap[w.heap.size]? = some (Obj.cells arr e (0, 0)) → R β' O' (w.alloc (.cells arr e)) (r σ.nx) u)
    (hrun : (execOp a.eval o).run E.P w = .ok (.value u) (w.alloc (.cells arr e))) (hK : K (newRow σ o.dst c r)) : MOk E o σ.n K g a w Q := by
  obtain ⟨h1, h2, hp, h3, h4⟩ := hc_new h.hc h.b0 e hl hc
  have hs := h.step h2 h3 h1 hp
  have := Cf.put (d := o.dst) hd (hr _ _ (by simp) h4) hs
  refine mok_value hrun ⟨_, _, _, hK, newRow_n _ _ _ _, (newRow_cn (c := c) (r := r)).2 this⟩

theorem nil_ok (h : Cn g β O σ a w) (hd : dOk σ.n o.dst) {sz : Nat} {ad : Option Addr} (had : ∀ x, ad = some x → ∃ b of, x = ⟨b, of, none⟩ ∧ ¬ O b ∧ b < w.heap.size) (hrun : (execOp a.eval o).run E.P w = .ok (.value (.slice ad 0 0)) w) (hK : K (newRow σ o.dst [] fun j => .ls j 0 sz 0)) : MOk E o σ.n K g a w Q := by
  obtain ⟨h1, h2⟩ := hc_nil h.hc
  have hs := h.step (Tr.refl O w) h2 h1 (Pr.refl _ _ _)
  have := Cf.put (d := o.dst) hd (r := .ls σ.nx 0 sz 0) (.lsn _ _ _ ad (by simp) had) hs
  refine mok_value hrun ⟨_, _, _, hK, newRow_n _ _ _ _, (newRow_cn (c := []) (r := fun j => .ls j 0 sz 0)).2 this⟩

theorem store_ok (hE : EvOk E) {t : TypeId} {ad x : Operand} (ho : o.op = .store t ad x) (hd : dOk σ.n o.dst) (hc : Cn g β O σ a w) (h : mop E o σ K) : MOk E o σ.n K g a w Q := by
  simp only [mop, ho] at h
  split at h
  · rename_i ti k off cs ht ha hx
    split at h
    · rename_i c hk
      obtain ⟨hl, h1, hle, hK⟩ := h
      have ha' : R β O w (.lp k off) (a.eval ad) := ha ▸ hc.ge ad
      obtain ⟨b, st, hb, hav⟩ := ha'.lp_inv
      have hxr : Rs β O w cs (a.eval x).cells := (hc.ge x).cells hx
      rcases hc.hc.row k c hk with ⟨hn, _⟩ | ⟨b', st', hb', _, _, old, e, hold, hst, hcell⟩
      · rw [hb] at hn; cases hn
      · rw [hb] at hb'; cases hb'
        have hsz := run_size hE.T ht w
        have hxl : (a.eval x).cells.toList.length = cs.length := by simpa using hxr.1
        have hstore := run_storeCells_at (P := E.P) b (st + off) e (a.eval x).cells.toList 0 old w hold (by rw [hxl]; omega) (rs_one hxr h1)
        simp only [Nat.add_zero] at hstore
        let new : Array Value := (old.toList.take (st + off) ++ (a.eval x).cells.toList ++ old.toList.drop (st + off + (a.eval x).cells.toList.length)).toArray
        have hnsz : new.size = old.size := by
          simp only [new, List.size_toArray, List.length_append, List.length_take, List.length_drop, hxl, Array.length_toList]
          omega
        have hget : ∀ j, new[j]? = if st + off ≤ j ∧ j < st + off + cs.length then (a.eval x).cells[j - (st + off)]? else old[j]? := by
          intro j
          simp only [new, List.getElem?_toArray, List.append_assoc]
          rw [List.getElem?_append]
          have hl1 : (old.toList.take (st + off)).length = st + off := by simp; omega
          rw [hl1]
          split
          · rw [if_neg (by omega), List.getElem?_take_of_lt (by omega)]; simp
          · rw [List.getElem?_append, hxl]
            split
            · rw [if_pos (by omega)]; simp
            · rw [if_neg (by omega), List.getElem?_drop]; simp; congr 1; omega
        obtain ⟨w1, w2, w3⟩ := hc_write hc.hc hk hb hold (c' := splice c off cs) (new := new) hnsz (by rw [splice_length hle, hnsz]; exact hst) (fun j y hj => by
          rw [splice_get hle] at hj
          rw [hget]
          split at hj
          · rename_i hh
            rw [if_pos (by omega), show st + j - (st + off) = j - off by omega]
            exact hxr.2 _ _ hj
          · rename_i hh
            rw [if_neg (by omega)]
            exact hcell j y hj)
        have hrun : (execOp a.eval o).run E.P w = .ok .skip (w.setRow b new) := by
          have hne : ¬ ((a.eval x).cells.size ≠ ti.size) := by rw [hxr.1, hl]; simp
          simp only [execOp, ho, Instr.storeAt, hav, Instr.sureAddr, storeVar, Sem.run_bind, Sem.run_pure, Result.andThen_ok, hsz, Sem.run_ite, if_neg hne, hstore]
          rfl
        refine wpIn_run ?_
        rw [hrun]
        refine ⟨β, O, _, hK, put_n _ _ _, ?_⟩
        have hs := hc.step w2 (fun _ _ h => h) w1 w3
        have := Cf.put (d := o.dst) hd (R.vv undef) hs
        unfold Cn
        rw [lk_put]
        cases hdd : o.dst <;> rw [hdd] at this <;> exact this
    · exact h.elim
  · exact h.elim

theorem elems_src (hE : EvOk E) (hc : Cn g β O σ a w) {x : AV} {u : Value} {sz : Nat} (hx : R β O w x u) {K : Nat → List AV → Prop} (h : elems σ.hp x K) :
    ∃ m cs, K m cs ∧ (cs.length = m * sz → ∃ us, Src E w β O sz m cs u us) := by
  unfold elems at h
  split at h
  · rename_i sz' m cs
    refine ⟨m, cs, h, fun hl => ?_⟩
    obtain ⟨_, ⟨rfl, rfl, rfl⟩ | ⟨b, off, cap, hO, hb, hn, rfl, hcell⟩⟩ := hx.sl_inv
    · exact ⟨_, src_nil none⟩
    · exact src_block hb hl fun i c hi => let ⟨y, p, q⟩ := hcell i c hi; ⟨y, p, .pl _ _ q⟩
  · rename_i k off sz' m
    split at h
    · rename_i c hk
      obtain ⟨hle, h⟩ := h
      refine ⟨m, _, h, fun hl => ?_⟩
      rcases hx.ls_inv with ⟨h1, rfl, ad, rfl, _⟩ | ⟨b, st, cap, h1, hn, rfl, _⟩
      · simp only [Nat.zero_mul, List.take_zero]
        exact ⟨_, src_nil ad⟩
      · rcases hc.hc.row k c hk with ⟨g1, _⟩ | ⟨b', st', g1, _, _, hrow⟩
        · rw [h1] at g1; cases g1
        · rw [h1] at g1; cases g1
          refine src_block hrow.lt hl fun i y hi => ?_
          rw [List.getElem?_take] at hi
          split at hi
          · rw [List.getElem?_drop] at hi
            rw [Nat.add_assoc]
            exact hrow.cell hi
          · cases hi
    · exact h.elim
  · refine ⟨0, [], h, fun _ => ?_⟩
    rw [hx.v_inv]
    exact ⟨_, src_nil none⟩
  · exact h.elim

theorem append_ok (hE : EvOk E) {s x : Operand} {t t' : TypeId} (ho : o.op = .call { callee := .builtin .append, args := #[s, x], argTypes := #[t, t'] }) (hd : dOk σ.n o.dst) (hc : Cn g β O σ a w) (h : appendA E σ o.dst t t' (σ.ge s) (σ.ge x) K) : MOk E o σ.n K g a w Q := by
  unfold appendA at h
  split at h
  · rename_i ti ti' ht ht'
    split at h
    · rename_i e e' hk hk'
      split at h
      · rename_i ei k off sz n he hs
        split at h
        · rename_i c hkc
          obtain ⟨rfl, hle, h⟩ := h
          obtain ⟨m, cs, ⟨hl, ho1, ho2, hby, hnm, hK⟩, hsrc⟩ := elems_src (sz := ei.size) hE hc (hc.ge x) h
          obtain ⟨us, hsrc⟩ := hsrc hl
          have hexec : (execOp a.eval o).run E.P w = ((Builtin.append_ #[t, t'] o.type #[a.eval s, a.eval x]).run E.P w).andThen fun v w' => .ok (.value v) w' := by
            simp [execOp, ho, resolve, invoke, builtin]
          have hsr : R β O w (.ls k off ei.size n) (a.eval s) := hs ▸ hc.ge s
          have hdl : ((c.drop off).take (n * ei.size)).length = n * ei.size := by simp; omega
          have hcontent : ((c.drop off).take (n * ei.size) ++ cs).length = (n + m) * ei.size := by rw [List.length_append, hdl, hl, Nat.add_mul]
          -- the old elements
          obtain ⟨ds_n, ds, ⟨e1, e2⟩, hold⟩ := elems_src (E := E) (σ := σ) (x := .ls k off ei.size n) (sz := ei.size) (K := fun m' ds => m' = n ∧ ds = (c.drop off).take (n * ei.size)) hE hc hsr (by simp only [elems, hkc, and_self, and_true]; exact hle)
          subst e1 e2
          obtain ⟨vs, hold⟩ := hold hdl
          have hgrow : ∀ (base : Option Addr) (cap : Nat), a.eval s = .slice base ds_n cap → ¬ ds_n + m ≤ cap → MOk E o σ.n K g a w Q := by
            intro base cap hv hng
            rw [hv] at hold
            obtain ⟨c', rest, hc1, hrs, hrun⟩ := run_append_grows hE ht hk he ht' ⟨e', hk'⟩ hsrc hold hng hby hnm o.type
            have hcd : Cn g β O { σ with hp := hset σ.hp k none } a w.drew := by
              have h1 := hc.gr (w' := w.drew) ((Below.refl _ _).drew)
              exact ⟨h1.defers, h1.fr, h1.sz, hc_drop h1.hc k, h1.inv, h1.b0, h1.pp, h1.prot, h1.tr⟩
            have hrel : Rs β O w ((c.drop off).take (ds_n * ei.size) ++ cs) (vs ++ us) := rs_append hold.rel hsrc.rel
            have hsz : (vs ++ us ++ rest).size = c' * ei.size := by
              rw [Array.size_append, hrel.1, hcontent, hrs, ← Nat.add_mul]; congr 1; omega
            have hrun' : (execOp a.eval o).run E.P w = .ok (.value (.slice (some ⟨w.heap.size, 0, none⟩) (ds_n + m) c')) (w.drew.alloc (.cells (vs ++ us ++ rest) e)) := by
              rw [hexec, hv, hrun]; rfl
            obtain ⟨h1, h2, hp, h3, h4⟩ := hc_new (c := (c.drop off).take (ds_n * ei.size) ++ cs) (arr := vs ++ us ++ rest) hcd.hc hcd.b0 e (by rw [hsz, hcontent]; exact Nat.mul_le_mul_right _ hc1) (fun j y hj => by
              obtain ⟨u, p, q⟩ := hrel.2 j y hj
              have hj' : j < (vs ++ us).size := (Array.getElem?_eq_some_iff.1 p).1
              exact ⟨u, by rw [Array.getElem?_append_left hj']; exact p, q.gr ((Below.refl _ _).drew)⟩)
            have hst := hcd.step h2 h3 h1 hp
            have := Cf.put (d := o.dst) hd (r := .ls σ.nx 0 ei.size (ds_n + m)) (u := .slice (some ⟨w.heap.size, 0, none⟩) (ds_n + m) c') (.ls _ _ _ _ w.heap.size 0 c' (if_pos rfl) hc1 ⟨_, _, _, h4, by rw [hsz]; omega⟩) hst
            exact mok_value hrun' ⟨_, _, _, hK, newRow_n _ _ _ _, newRow_cn.2 this⟩
          rcases hsr.ls_inv with ⟨h1, rfl, ad, hv, had⟩ | ⟨b, st, cap, hb, hn, hv, arr0, e0, fz0, harr, hcap⟩
          · -- no block yet
            by_cases hm : m = 0
            · subst hm
              have hcs : cs = [] := List.length_eq_zero_iff.1 (by simpa using hl)
              subst hcs
              have hrun : (execOp a.eval o).run E.P w = .ok (.value (.slice ad 0 0)) w := by
                have hu := run_und_slice hE.T ht hk w
                have hu' := run_und_slice hE.T ht' hk' w
                have hz := run_size hE.T he w
                have hl' := hsrc.len w
                have hc' := hsrc.cells w (fun _ _ => rfl)
                have hus : us = #[] := by
                  have := hsrc.rel.1
                  simpa using this
                subst hus
                rw [hexec, hv]
                cases ad with
                | none => simp [Builtin.append_, hu, hu', hz, hl', hc']
                | some ad => simp [Builtin.append_, hu, hu', hz, hl', hc', storeCells]
              have hcd : Cn g β O { σ with hp := hset σ.hp k none } a w := ⟨hc.defers, hc.fr, hc.sz, hc_drop hc.hc k, hc.inv, hc.b0, hc.pp, hc.prot, hc.tr⟩
              refine nil_ok (σ := { σ with hp := hset σ.hp k none }) (sz := ei.size) hcd hd had hrun ?_
              simpa using hK
            · exact hgrow ad 0 hv (by omega)
          · by_cases hfit : ds_n + m ≤ cap
            · rcases hc.hc.row k c hkc with ⟨g1, _⟩ | ⟨b', st', g1, hO, hB, old, e1, hold1, hst1, hcell⟩
              · rw [hb] at g1; cases g1
              · rw [hb] at g1; cases g1
                rw [harr] at hold1
                simp only [Option.some.injEq, Obj.cells.injEq] at hold1
                obtain ⟨hq1, hq2, hq3⟩ := hold1
                rw [hq1, hq2, hq3] at harr
                rw [hq1] at hcap
                clear hq1 hq2 hq3
                have husz : us.size = m * ei.size := by rw [hsrc.rel.1, hl]
                have hmul : ds_n * ei.size + m * ei.size ≤ cap * ei.size := by rw [← Nat.add_mul]; exact Nat.mul_le_mul_right _ hfit
                have hroom : st + off + ds_n * ei.size + us.size ≤ old.size := by rw [husz]; omega
                have hrun := run_append_fits hE ht hk he ht' ⟨e', hk'⟩ hsrc (b := b) (st := st + off) hfit harr hroom (rs_one hsrc.rel ho2) o.type
                have hul : us.toList.length = cs.length := by simpa using hsrc.rel.1
                let new : Array Value := (old.toList.take (st + off + ds_n * ei.size) ++ us.toList ++ old.toList.drop (st + off + ds_n * ei.size + us.toList.length)).toArray
                have hnsz : new.size = old.size := by
                  simp only [new, List.size_toArray, List.length_append, List.length_take, List.length_drop, Array.length_toList]
                  omega
                have hget : ∀ j, new[j]? = if st + off + ds_n * ei.size ≤ j ∧ j < st + off + ds_n * ei.size + cs.length then us[j - (st + off + ds_n * ei.size)]? else old[j]? := by
                  intro j
                  simp only [new, List.getElem?_toArray, List.append_assoc]
                  rw [List.getElem?_append]
                  have hl1 : (old.toList.take (st + off + ds_n * ei.size)).length = st + off + ds_n * ei.size := by simp; omega
                  rw [hl1]
                  split
                  · rw [if_neg (by omega), List.getElem?_take_of_lt (by omega)]; simp
                  · rw [List.getElem?_append, hul]
                    split
                    · rw [if_pos (by omega)]; simp
                    · rw [if_neg (by omega), List.getElem?_drop]; simp; congr 1; omega
                have hcl : c.length = c.length := rfl
                obtain ⟨m1, m2, m3, m4⟩ := hc_move hc.hc hkc hb harr (c' := (c.drop off).take (ds_n * ei.size) ++ cs) (st' := st + off) (new := new) hnsz (by rw [hnsz, hcontent, Nat.add_mul]; omega) (fun j y hj => by
                  rw [hget]
                  rw [List.getElem?_append, hdl] at hj
                  split at hj
                  · rename_i hlt
                    rw [if_neg (by omega)]
                    rw [List.getElem?_take_of_lt hlt, List.getElem?_drop] at hj
                    rw [Nat.add_assoc]
                    exact hcell _ _ hj
                  · rename_i hge
                    have hjl : j - ds_n * ei.size < cs.length := (List.getElem?_eq_some_iff.1 hj).1
                    rw [if_pos (by omega), show st + off + j - (st + off + ds_n * ei.size) = j - ds_n * ei.size by omega]
                    exact hsrc.rel.2 _ _ hj)
                have hst := hc.step m2 m4 m1 m3
                have hrun' : (execOp a.eval o).run E.P w = .ok (.value (.slice (some ⟨b, st + off, none⟩) (ds_n + m) cap)) (w.setRow b new) := by
                  rw [hexec, hv, hrun]; rfl
                have := Cf.put (d := o.dst) hd (r := .ls σ.nx 0 ei.size (ds_n + m)) (u := .slice (some ⟨b, st + off, none⟩) (ds_n + m) cap) (.ls _ _ _ _ b (st + off) cap (if_pos rfl) hfit ⟨_, _, _, setRow_heap _ _ _ _ _ _ harr, by rw [hnsz]; omega⟩) hst
                exact mok_value hrun' ⟨_, _, _, hK, newRow_n _ _ _ _, newRow_cn.2 this⟩
            · exact hgrow _ cap hv hfit
        · exact h.elim
      · exact h.elim
    · exact h.elim
  · exact h.elim

end
end Go.Ab

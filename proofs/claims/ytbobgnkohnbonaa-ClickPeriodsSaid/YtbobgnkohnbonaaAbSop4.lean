/- The abstract machine, part 6: new memory that nobody writes, calls; all still operations together. -/
import Derived.Test.YtbobgnkohnbonaaAbSop3
set_option linter.unusedVariables false
set_option linter.unusedSimpArgs false
namespace Go.Ab
open Go.RowKit

mutual
/-- No local rows in it. -/
def AV.plain : AV → Bool
  | .v _ => true
  | .sl _ _ _ => true
  | .pt _ _ => true
  | .ag cs => plainL cs
  | .tu cs => plainL cs
  | .fn _ cs ds => plainL cs && plainL ds
  | .ic _ x => AV.plain x
  | .lp _ _ => false
  | .ls _ _ _ _ => false
  | .any => false
def plainL : List AV → Bool
  | [] => true
  | a :: l => AV.plain a && plainL l
end

theorem plainL_get : ∀ {cs : List AV}, plainL cs = true → ∀ {i : Nat} {c : AV}, cs[i]? = some c → c.plain = true
  | [], _, i, c, h => by simp at h
  | a :: l, hp, i, c, h => by
    simp only [plainL, Bool.and_eq_true] at hp
    cases i with
    | zero => simp at h; exact h ▸ hp.1
    | succ i => exact plainL_get hp.2 (by simpa using h)

theorem plainL_of : ∀ {cs : List AV}, (∀ c ∈ cs, c.plain = true) → plainL cs = true
  | [], _ => rfl
  | a :: l, h => by
    simp only [plainL, Bool.and_eq_true]
    exact ⟨h a (by simp), plainL_of fun c hc => h c (by simp [hc])⟩

theorem R.plain {β : Bt} {O : Nat → Prop} {w : World} {a : AV} {u : Value} (h : R β O w a u) (hp : a.plain = true) : Rp O w a u := by
  induction h with
  | pl a u h => exact h
  | any u => simp [AV.plain] at hp
  | ag cs us f hs hu hr ih => simp only [AV.plain] at hp; exact .ag cs us f hs hu fun i c hc => ih i c hc (plainL_get hp hc)
  | tu cs us f hs hu hr ih => simp only [AV.plain] at hp; exact .tu cs us f hs hu fun i c hc => ih i c hc (plainL_get hp hc)
  | fn fn cs ds us vs f g hs ht hu hr hv hq ih1 ih2 =>
    simp only [AV.plain, Bool.and_eq_true] at hp
    exact .fn fn cs ds us vs f g hs ht hu (fun i c hc => ih1 i c hc (plainL_get hp.1 hc)) hv (fun i c hc => ih2 i c hc (plainL_get hp.2 hc))
  | ic t x u h ih => simp only [AV.plain] at hp; exact .ic t x u (ih hp)
  | lp k off b st hk => simp [AV.plain] at hp
  | lsn k off sz a hk ha => simp [AV.plain] at hp
  | ls k off sz n b st cap hk hn hsz => simp [AV.plain] at hp

section
variable {E : Ev} {o : Oper} {ge : Operand → AV} {H : Hp} {nx : Nat} {K : AV → Prop}

theorem HC.fresh_block {B0 : Nat → Prop} {O0 : Nat → Prop} {β : Bt} {O : Nat → Prop} {H : Hp} {nx : Nat} {w : World} (h : HC B0 O0 β O H nx w) (hB : Bk B0 w) : ¬ O w.heap.size := by
  intro hO
  have := h.own _ hO
  omega

theorem gr_alloc (w : World) (ob : Obj) : Gr w (w.alloc ob) := (Below.refl _ _).alloc (Nat.le_refl _) _

theorem cell_alloc (w : World) (arr : Array Value) (e : TypeId) (i : Nat) : (w.alloc (.cells arr e)).cell? ⟨w.heap.size, i, none⟩ = arr[i]? := by
  have h : (w.alloc (.cells arr e)).heap[w.heap.size]? = some (Obj.cells arr e) := by
    show (w.heap.push _)[w.heap.size]? = _
    exact Array.getElem?_push_size
  unfold World.cell?
  rw [h]
  rfl

/-- Cells that are related, laid into a new block. -/
theorem new_cells {β : Bt} {O : Nat → Prop} {w : World} {cs : List AV} {arr : Array Value} (e : TypeId) (h : Rs β O w cs arr) (hp : plainL cs = true) :
    ∀ (i : Nat) (c : AV), cs[i]? = some c → ∃ x : Value, (w.alloc (.cells arr e)).cell? ⟨w.heap.size, 0 + i, none⟩ = some x ∧ Rp O (w.alloc (.cells arr e)) c x := by
  intro i c hc
  obtain ⟨u, h1, h2⟩ := h.2 i c hc
  exact ⟨u, by rw [Nat.zero_add, cell_alloc, h1], (h2.plain (plainL_get hp hc)).mono (Tr.of_gr (gr_alloc w _))⟩

def buildSlA (T : Tab) (t : TypeId) (len : Nat) (parts : List (Nat × AV)) (K : List AV → Nat → Prop) : Prop :=
  match T t with
  | some ti =>
    match ti.kind with
    | .slice e =>
      match T e with
      | some ei =>
        match ei.zero.cells? with
        | some zs => len * ei.size ≤ 16777216 ∧ zs.length = ei.size ∧ fillK (placeA T (.slice e)) (zrep zs len) parts fun cs => K cs ei.size
        | none => False
      | none => False
    | _ => False
  | none => False

theorem buildSl_run (hE : EvOk E) {t : TypeId} {len : Nat} {parts : Array (Nat × Operand)} {K : List AV → Nat → Prop} (h : buildSlA E.T t len (parts.toList.map fun p => (p.1, ge p.2)) K) :
    ∃ cs sz, K cs sz ∧ cs.length = len * sz ∧ ∀ (β : Bt) (O : Nat → Prop) (w : World) (ev : Operand → Value), (∀ p, p ∈ parts → R β O w (ge p.2) (ev p.2)) →
      ∃ arr e, (Instr.buildSlice t len (parts.map fun (i, x) => (i, ev x))).run E.P w = .ok (.slice (some ⟨w.heap.size, 0, none⟩) len len) (w.alloc (.cells arr e)) ∧ Rs β O w cs arr := by
  unfold buildSlA at h
  split at h
  · rename_i ti ht
    split at h
    · rename_i e hk
      split at h
      · rename_i ei he
        split at h
        · rename_i zs hz
          obtain ⟨hle, hzl, h⟩ := h
          obtain ⟨cs, hr, h⟩ := fillK_res h
          have hlen : ∀ (parts : List (Nat × AV)) (cells : List AV), fillK (placeA E.T (.slice e)) cells parts (fun x => x = cs) → cs.length = cells.length := by
            intro parts
            induction parts with
            | nil => intro cells h; have h : cells = cs := h; rw [h]
            | cons p rest ih =>
              intro cells h
              unfold fillK at h
              split at h
              · rw [ih _ h.2.2, splice_length h.2.1]
              · exact h.elim
          refine ⟨cs, ei.size, hr, by rw [hlen _ _ h, zrep_length, hzl], fun β O w ev hop => ?_⟩
          have hu := run_und_slice hE.T ht hk w
          have hs := run_size hE.T he w
          obtain ⟨z, z1, z2, z3⟩ := run_zero hE.T he w
          obtain ⟨p1, p2⟩ := parts_map (ge := ge) (ev := ev) (β := β) (O := O) (w := w) (ops := parts) hop
          have hzs : Rs β O w zs z.cells := rs_zero_of (by rw [z2]; exact hz)
          have hfill : ∀ (zero : Array Value), (len * ei.size = 0 ∨ zero = z.cells) → Rs β O w (zrep zs len) ((Array.range (len * ei.size)).map (zero[· % zero.size]!)) := by
            intro zero hzz
            rcases hzz with h0 | rfl
            · rw [h0]
              refine ⟨by simp [zrep_length, hzl, h0], fun i a ha => ?_⟩
              have := (List.getElem?_eq_some_iff.1 ha).1
              rw [zrep_length, hzl, h0] at this
              omega
            · have := rs_zero hzs len
              rw [z3] at this ⊢
              exact this
          have hrun : ∀ zero : Array Value, (len * ei.size = 0 ∨ zero = z.cells) → ∃ arr, Instr.fill (fun i => some (i * ei.size, ei.size)) ((Array.range (len * ei.size)).map (zero[· % zero.size]!)) (parts.map fun p => (p.1, ev p.2)).toList = some arr ∧ Rs β O w cs arr := fun zero hzz =>
            fill_run (β := β) (O := O) (w := w) (place := placeA E.T (.slice e)) (place' := fun i => some (i * ei.size, ei.size)) (fun i p hp => by simpa [placeA, he] using hp) _ _ _ cs _ p1 p2 (hfill zero hzz) h
          have hbig : ¬ (len * ei.size > 2 ^ 24) := by simpa using hle
          by_cases h0 : len * ei.size = 0
          · obtain ⟨arr, a1, a2⟩ := hrun #[] (.inl h0)
            refine ⟨arr, e, ?_, a2⟩
            simp only [Instr.buildSlice, Sem.run_bind, hu, Result.andThen_ok, hs, Sem.run_ite, if_neg hbig, Sem.run_pure, if_pos h0]
            erw [a1]
            simp [newRow]
          · obtain ⟨arr, a1, a2⟩ := hrun z.cells (.inr rfl)
            refine ⟨arr, e, ?_, a2⟩
            simp only [Instr.buildSlice, Sem.run_bind, hu, Result.andThen_ok, hs, Sem.run_ite, if_neg hbig, Sem.run_pure, if_neg h0, z1]
            erw [a1]
            simp [newRow]
        · exact h.elim
      · exact h.elim
    · exact h.elim
  · exact h.elim

theorem buildSl_ok (hE : EvOk E) {t : TypeId} {len : Nat} {parts : Array (Nat × Operand)} (ho : o.op = .buildSlice t len parts)
    (h : buildSlA E.T t len (parts.toList.map fun p => (p.1, ge p.2)) fun cs sz => plainL cs = true ∧ K (.sl sz len cs)) : ∃ r, StillOk E.P o ge H nx r ∧ K r := by
  obtain ⟨cs, sz, ⟨hp, hK⟩, hl, hrun⟩ := buildSl_run hE h
  refine ⟨_, fun B0 O0 β O w ev hh hB hop => ?_, hK⟩
  obtain ⟨arr, e, h1, h2⟩ := hrun β O w ev (fun p hp => hop p.2 (by simp [ho, Op.operands]; exact ⟨p.1, hp⟩))
  have : (execOp ev o).run E.P w = .ok (.value (.slice (some ⟨w.heap.size, 0, none⟩) len len)) (w.alloc (.cells arr e)) := by
    simp only [execOp, ho, Sem.run_bind]
    erw [h1]
    rfl
  rw [this]
  exact ⟨gr_alloc _ _, .pl _ _ (Rp.mk_sl (hh.fresh_block hB) (by simp) (Nat.le_refl _) hl (new_cells e h2 hp))⟩

theorem box_ok {e : TypeId} {x : Operand} {cs : List AV} (ho : o.op = .box e x) (hc : (ge x).cells? = some cs) (hp : plainL cs = true) (h : K (.pt cs 0)) : ∃ r, StillOk E.P o ge H nx r ∧ K r := by
  refine ⟨_, fun B0 O0 β O w ev hh hB hop => ?_, h⟩
  have hrs : Rs β O w cs (ev x).cells := (hop x (by simp [ho, Op.operands])).cells hc
  have : (execOp ev o).run E.P w = .ok (.value (.pointer (some ⟨w.heap.size, 0 + 0, none⟩))) (w.alloc (.cells (ev x).cells e)) := by
    simp [execOp, ho, Instr.box, newVar, newRow]
  rw [this]
  exact ⟨gr_alloc _ _, .pl _ _ (Rp.mk_pt (hh.fresh_block hB) (by simp) (new_cells e hrs hp))⟩

theorem alloc_ok (hE : EvOk E) {e : TypeId} {ti : TI} {zs : List AV} (ho : o.op = .alloc e) (ht : E.T e = some ti) (hz : ti.zero.cells? = some zs) (hp : plainL zs = true) (h : K (.pt zs 0)) : ∃ r, StillOk E.P o ge H nx r ∧ K r := by
  refine ⟨_, fun B0 O0 β O w ev hh hB hop => ?_, h⟩
  obtain ⟨z, z1, z2, z3⟩ := run_zero hE.T ht w
  have hrs : Rs β O w zs z.cells := rs_zero_of (by rw [z2]; exact hz)
  have : (execOp ev o).run E.P w = .ok (.value (.pointer (some ⟨w.heap.size, 0 + 0, none⟩))) (w.alloc (.cells z.cells e)) := by
    simp [execOp, ho, Instr.alloc, newVar, newRow, z1]
  rw [this]
  exact ⟨gr_alloc _ _, .pl _ _ (Rp.mk_pt (hh.fresh_block hB) (by simp) (new_cells e hrs hp))⟩

def makeSlA (T : Tab) (t : TypeId) (len cap : AV) (K : List AV → Nat → Nat → Prop) : Prop :=
  match T t with
  | some ti =>
    match ti.kind with
    | .slice e =>
      match T e with
      | some ei =>
        match ei.zero.cells?, len, cap with
        | some zs, .v (.int _ n), .v (.int _ c) => n = c ∧ 0 ≤ n ∧ n * ei.bytes ≤ 140737488355328 ∧ n ≤ 140737488355328 ∧ zs.length = ei.size ∧ K (zrep zs n.toNat) ei.size n.toNat
        | _, _, _ => False
      | none => False
    | _ => False
  | none => False

theorem makeSl_run (hE : EvOk E) {t : TypeId} {len cap : Operand} {K : List AV → Nat → Nat → Prop} (h : makeSlA E.T t (ge len) (ge cap) K) :
    ∃ cs sz n, K cs sz n ∧ cs.length = n * sz ∧ ∀ (β : Bt) (O : Nat → Prop) (w : World) (ev : Operand → Value), R β O w (ge len) (ev len) → R β O w (ge cap) (ev cap) →
      ∃ arr e, (Instr.makeSlice t (ev len) (ev cap)).run E.P w = .ok (.slice (some ⟨w.heap.size, 0, none⟩) n n) (w.alloc (.cells arr e)) ∧ Rs β O w cs arr := by
  unfold makeSlA at h
  split at h
  · rename_i ti ht
    split at h
    · rename_i e hk
      split at h
      · rename_i ei he
        split at h
        · rename_i zs kn n kc c hz hl hc
          obtain ⟨rfl, h0, hb, hn, hzl, h⟩ := h
          refine ⟨_, _, _, h, by rw [zrep_length, hzl], fun β O w ev r1 r2 => ?_⟩
          have e1 := (hl ▸ r1).v_inv
          have e2 := (hc ▸ r2).v_inv
          have hu := run_und_slice hE.T ht hk w
          have hs := run_size hE.T he w
          obtain ⟨inf, i1, i2, i3⟩ := run_info hE.T he w
          obtain ⟨z, z1, z2, z3⟩ := run_zero hE.T he w
          have hzs : Rs β O w zs z.cells := rs_zero_of (by rw [z2]; exact hz)
          have hw : IntKind.i64.wrap n = n := IntWalk.i64_in _ (by omega)
          have hlarge : (decide (n < 0) || decide ((inf.bytes : Int) * n > 2 ^ 48)) = false := by
            rw [i3]
            have : (ei.bytes : Int) * n ≤ 140737488355328 := by rw [Int.mul_comm]; exact hb
            simp; omega
          have hroom : ¬ (n.toNat * inf.bytes > roomBytes) := by
            have hb' : ((n.toNat * inf.bytes : Nat) : Int) ≤ 140737488355328 := by
              rw [Int.natCast_mul, Int.toNat_of_nonneg h0, i3]; exact hb
            simp only [roomBytes]; omega
          have run : ∀ zero : Array Value, ((if n.toNat * ei.size = 0 then pure #[] else do pure (← zeroValue e).cells : Sem (Array Value)).run E.P w = .ok zero w) →
              (Instr.makeSlice t (.int kn n) (.int kc n)).run E.P w = .ok (.slice (some ⟨w.heap.size, 0, none⟩) n.toNat n.toNat) (w.alloc (.cells ((Array.range (n.toNat * ei.size)).map (zero[· % zero.size]!)) e)) := by
            intro zero hz0
            have hnot : ¬ ((decide (n < 0) || decide ((inf.bytes : Int) * n > 2 ^ 48) || decide (n < 0) || decide (n > n)) = true) := by
              rw [hlarge]; simp; omega
            simp only [Instr.makeSlice, asInt, asIntOf, Sem.run_bind, hu, Result.andThen_ok, Sem.run_pure, i1, hw, Sem.run_ite, if_neg hnot, askRoom, if_neg hroom, hs]
            by_cases hq : n.toNat * ei.size = 0
            · simp only [if_pos hq, Sem.run_pure, Result.ok.injEq, and_true] at hz0 ⊢
              subst hz0
              simp [newRow]
            · simp only [if_neg hq, Sem.run_bind, Sem.run_pure, z1, Result.andThen_ok, Result.ok.injEq, and_true] at hz0 ⊢
              subst hz0
              simp [newRow]
          rw [e1, e2]
          by_cases hz0 : n.toNat * ei.size = 0
          · refine ⟨_, e, run #[] (by simp [hz0]), ?_⟩
            rw [hz0]
            refine ⟨by simp [zrep_length, hzl, hz0], fun i a ha => ?_⟩
            have := (List.getElem?_eq_some_iff.1 ha).1
            rw [zrep_length, hzl, hz0] at this
            omega
          · refine ⟨_, e, run z.cells (by simp [hz0, z1]), ?_⟩
            have := rs_zero hzs n.toNat
            rw [z3] at this ⊢
            exact this
        · exact h.elim
      · exact h.elim
    · exact h.elim
  · exact h.elim

theorem makeSl_ok (hE : EvOk E) {t : TypeId} {len cap : Operand} (ho : o.op = .makeSlice t len cap)
    (h : makeSlA E.T t (ge len) (ge cap) fun cs sz n => plainL cs = true ∧ K (.sl sz n cs)) : ∃ r, StillOk E.P o ge H nx r ∧ K r := by
  obtain ⟨cs, sz, n, ⟨hp, hK⟩, hl, hrun⟩ := makeSl_run hE h
  refine ⟨_, fun B0 O0 β O w ev hh hB hop => ?_, hK⟩
  obtain ⟨arr, e, h1, h2⟩ := hrun β O w ev (hop len (by simp [ho, Op.operands])) (hop cap (by simp [ho, Op.operands]))
  have : (execOp ev o).run E.P w = .ok (.value (.slice (some ⟨w.heap.size, 0, none⟩) n n)) (w.alloc (.cells arr e)) := by
    simp only [execOp, ho, Sem.run_bind, h1, Result.andThen_ok, Sem.run_pure]
  rw [this]
  exact ⟨gr_alloc _ _, .pl _ _ (Rp.mk_sl (hh.fresh_block hB) (by simp) (Nat.le_refl _) hl (new_cells e h2 hp))⟩

/-! ### calls -/
theorem rs_append {β : Bt} {O : Nat → Prop} {w : World} {xs ys : List AV} {us vs : Array Value} (h : Rs β O w xs us) (k : Rs β O w ys vs) : Rs β O w (xs ++ ys) (us ++ vs) := by
  refine ⟨by simp [h.1, k.1], fun i a ha => ?_⟩
  rw [List.getElem?_append] at ha
  rw [Array.getElem?_append]
  split at ha
  · rename_i hi
    rw [if_pos (by rw [h.1]; exact hi)]
    exact h.2 _ _ ha
  · rename_i hi
    rw [if_neg (by rw [h.1]; exact hi), h.1]
    exact k.2 _ _ ha

def callV (E : Ev) (H : Hp) (nx : Nat) (f : AV) (args : List AV) (K : AV → Prop) : Prop :=
  match f with
  | .fn (.func f) first captured => callS E.P f H nx (first ++ args ++ captured) K
  | _ => False

theorem callV_ok {f : Operand} {args : Array Operand} {ts : Array TypeId} (ho : o.op = .call { callee := .value f, args := args, argTypes := ts }) (h : callV E H nx (ge f) (args.toList.map ge) K) : ∃ r, StillOk E.P o ge H nx r ∧ K r := by
  unfold callV at h
  split at h
  · rename_i fid first captured hf
    obtain ⟨r, ⟨hcan, hcall⟩, hK⟩ := h
    refine ⟨r, fun B0 O0 β O w ev hh hB hop => ?_, hK⟩
    obtain ⟨us, vs, hfv, hs, ht, hu, hv⟩ := (hf ▸ hop f (by simp [ho, Op.operands, Call.operands])).fn_inv
    obtain ⟨a1, a2⟩ := rs_map (ge := ge) (ev := ev) (β := β) (O := O) (w := w) (ops := args) (fun x hx => hop x (by simp [ho, Op.operands, Call.operands, hx]))
    have : (execOp ev o).run E.P w = .ok (.enter fid (us ++ args.map ev ++ vs)) w := by
      have hcan' : ∀ (args : Array Value) (w : World), (callFunc fid args).run E.P w = .ok (.enter fid args) w := hcan
      simp [execOp, ho, resolve, hfv, Deferred.ofValue, invoke, hcan']
    rw [this]
    exact ⟨rfl, hcall B0 O0 β O w _ hh hB (rs_append (rs_append ⟨hs, hu⟩ ⟨a1, a2⟩) ⟨ht, hv⟩)⟩
  · exact h.elim

def callI (E : Ev) (H : Hp) (nx : Nat) (recv : AV) (name : String) (args : List AV) (K : AV → Prop) : Prop :=
  match recv with
  | .ic t x => match E.M t name with
    | some f => callS E.P f H nx (x :: args) K
    | none => False
  | _ => False

theorem callI_ok (hE : EvOk E) {recv : Operand} {name : String} {args : Array Operand} {ts : Array TypeId} (ho : o.op = .call { callee := .invoke recv name, args := args, argTypes := ts })
    (h : callI E H nx (ge recv) name (args.toList.map ge) K) : ∃ r, StillOk E.P o ge H nx r ∧ K r := by
  unfold callI at h
  split at h
  · rename_i t x hx
    split at h
    · rename_i fid hf
      obtain ⟨r, ⟨hcan, hcall⟩, hK⟩ := h
      refine ⟨r, fun B0 O0 β O w ev hh hB hop => ?_, hK⟩
      obtain ⟨y, hy, hxy⟩ := (hx ▸ hop recv (by simp [ho, Op.operands, Call.operands])).ic_inv
      obtain ⟨a1, a2⟩ := rs_map (ge := ge) (ev := ev) (β := β) (O := O) (w := w) (ops := args) (fun x hx => hop x (by simp [ho, Op.operands, Call.operands, hx]))
      have hm := hE.M t name fid hf y w
      have : (execOp ev o).run E.P w = .ok (.enter fid (#[y] ++ args.map ev)) w := by
        have hcan' : ∀ (args : Array Value) (w : World), (callFunc fid args).run E.P w = .ok (.enter fid args) w := hcan
        have h0 : (#[Value.iface t y] ++ args.map ev)[0]? = some (Value.iface t y) := by
          rw [Array.getElem?_append_left (by simp)]
          rfl
        have h1 : (#[Value.iface t y] ++ args.map ev).extract 1 (#[Value.iface t y] ++ args.map ev).size = args.map ev := by
          apply Array.ext_getElem?
          intro i
          rw [Array.getElem?_extract]
          by_cases hi : i < args.size
          · rw [if_pos (by simp; omega), Array.getElem?_append_right (by simp)]; congr 1; simp
          · rw [if_neg (by simp; omega), Array.getElem?_eq_none (by simp; omega)]
        simp only [execOp, ho, resolve, Sem.run_bind, Sem.run_pure, Result.andThen_ok, invoke, hy, h0, h1, callMethod]
        simp only [program, Sem.run, hm, Result.andThen_ok, hcan']
      rw [this]
      refine ⟨rfl, hcall B0 O0 β O w _ hh hB ?_⟩
      exact rs_append (xs := [x]) ⟨rfl, fun i a ha => by cases i with
        | zero => simp at ha; subst ha; exact ⟨y, rfl, hxy⟩
        | succ i => simp at ha⟩ ⟨a1, a2⟩
    · exact h.elim
  · exact h.elim

/-! ### all together -/
def sop (E : Ev) (o : Oper) (ge : Operand → AV) (H : Hp) (nx : Nat) (K : AV → Prop) : Prop :=
  match o.op with
  | .move x => K (ge x)
  | .assign x => K (ge x)
  | .pick c a b => pk (ge c) (ge a) (ge b) K
  | .binOp op t x y _ => bop E op t (ge x) (ge y) K
  | .unOp op _ x => uop op (ge x) K
  | .convert src dst x => conv E.T src dst (ge x) K
  | .load t x => loadA E.T H t (ge x) K
  | .fieldAddr s x f => fieldA E.T s (ge x) f K
  | .field s x f => fieldV E.T s (ge x) f K
  | .indexAddr t x ix => indexA E.T t (ge x) (ge ix) K
  | .index t x ix => indexV E.T t (ge x) (ge ix) K
  | .slice t x lo hi none => sliceA E.T t (ge x) (lo.map ge) (hi.map ge) K
  | .extract x i => exA (ge x) i K
  | .nilCheck x => nilA (ge x) K
  | .makeInterface t x => mkIf E.T t (ge x) K
  | .makeFunc f first captured => K (.fn f (first.toList.map ge) (captured.toList.map ge))
  | .build t parts => buildA E.T t (parts.toList.map fun p => (p.1, ge p.2)) K
  | .buildSlice t len parts => buildSlA E.T t len (parts.toList.map fun p => (p.1, ge p.2)) fun cs sz => plainL cs = true ∧ K (.sl sz len cs)
  | .makeSlice t len cap => makeSlA E.T t (ge len) (ge cap) fun cs sz n => plainL cs = true ∧ K (.sl sz n cs)
  | .box _ x => match (ge x).cells? with
    | some cs => plainL cs = true ∧ K (.pt cs 0)
    | none => False
  | .alloc e => match E.T e with
    | some ti => match ti.zero.cells? with
      | some zs => plainL zs = true ∧ K (.pt zs 0)
      | none => False
    | none => False
  | .call c => match c with
    | { callee := .value f, args := args, .. } => callV E H nx (ge f) (args.toList.map ge) K
    | { callee := .invoke r name, args := args, .. } => callI E H nx (ge r) name (args.toList.map ge) K
    | { callee := .builtin b, args := args, argTypes := ts } =>
      match b with
      | .len => match args.toList, ts.toList with
        | [x], [t] => lenA E.T t (ge x) K
        | _, _ => False
      | .max => mmA true (args.toList.map ge) K
      | .min => mmA false (args.toList.map ge) K
      | _ => False
  | _ => False

theorem sop_ok (hE : EvOk E) (h : sop E o ge H nx K) : ∃ r, StillOk E.P o ge H nx r ∧ K r := by
  unfold sop at h
  split at h
  case h_1 ho => exact move_ok (.inl ho) h
  case h_2 ho => exact move_ok (.inr ho) h
  case h_3 ho => exact pk_ok ho h
  case h_4 ho => exact bop_ok hE ho h
  case h_5 ho => exact uop_ok ho h
  case h_6 ho => exact conv_ok hE ho h
  case h_7 ho => exact loadA_ok hE ho h
  case h_8 ho => exact fieldA_ok hE ho h
  case h_9 ho => exact fieldV_ok hE ho h
  case h_10 ho => exact indexA_ok hE ho h
  case h_11 ho => exact indexV_ok hE ho h
  case h_12 ho => exact sliceA_ok hE ho h
  case h_13 ho => exact exA_ok ho h
  case h_14 ho => exact nilA_ok ho h
  case h_15 ho => exact mkIf_ok hE ho h
  case h_16 ho => exact mkFn_ok ho h
  case h_17 ho => exact buildA_ok hE ho h
  case h_18 ho => exact buildSl_ok hE ho h
  case h_19 ho => exact makeSl_ok hE ho h
  case h_20 ho =>
    split at h
    · rename_i cs hc
      exact box_ok ho hc h.1 h.2
    · exact h.elim
  case h_21 ho =>
    split at h
    · rename_i ti ht
      split at h
      · rename_i zs hz
        exact alloc_ok hE ho ht hz h.1 h.2
      · exact h.elim
    · exact h.elim
  case h_22 ho =>
    split at h
    · exact callV_ok ho h
    · exact callI_ok hE ho h
    · rename_i b args ts
      split at h
      · split at h
        · rename_i x t hx ht
          have e1 : args = #[x] := by rw [← Array.toArray_toList (xs := args), hx]
          have e2 : ts = #[t] := by rw [← Array.toArray_toList (xs := ts), ht]
          subst e1 e2
          exact len_ok hE ho h
        · exact h.elim
      · exact mm_ok (.inl ⟨rfl, rfl⟩) ho h
      · exact mm_ok (.inr ⟨rfl, rfl⟩) ho h
      · exact h.elim
  case h_23 => exact h.elim

end
end Go.Ab

/- The abstract machine, part 4: the still operations, continued. -/
import Derived.Test.YtbobgnkohnbonaaAbSop
set_option linter.unusedVariables false
set_option linter.unusedSimpArgs false
namespace Go.Ab
open Go.RowKit
section
variable {E : Ev} {o : Oper} {ge : Operand → AV} {H : Hp} {nx : Nat} {K : AV → Prop}

/-! ### parts of values -/
def fieldV (T : Tab) (s : TypeId) (x : AV) (f : Nat) (K : AV → Prop) : Prop :=
  match T s with
  | some si =>
    match si.kind, x with
    | .struct fs, .ag cs =>
      match fs[f]? with
      | some (off, ft) =>
        match T ft with
        | some fi => cellsK fi cs off K
        | none => False
      | none => False
    | _, _ => False
  | none => False

theorem run_part (hE : EvOk E) {t : TypeId} {ti : TI} (ht : E.T t = some ti) {β : Bt} {O : Nat → Prop} {w : World} {cs : List AV} {us : Array Value} {off : Nat}
    (hs : us.size = cs.length) (hu : ∀ (i : Nat) (c : AV), cs[i]? = some c → ∃ x : Value, us[i]? = some x ∧ R β O w c x) {r : AV} (h : cellsK ti cs off (fun a => a = r)) :
    ∃ u, (part t us off).run E.P w = .ok u w ∧ R β O w r u := by
  have hag := run_agg hE.T ht w
  have hsz := run_size hE.T ht w
  unfold cellsK at h
  cases ha : ti.agg with
  | true =>
    rw [ha, cond_true] at h
    obtain ⟨hl, rfl⟩ := h
    refine ⟨.agg (us.extract off (off + ti.size)), by simp [part, hag, ha, hsz], R.mk_ag (by simp; omega) fun i c hc => ?_⟩
    have hi : i < ti.size := by
      have := (List.getElem?_eq_some_iff.1 hc).1
      simp at this; omega
    rw [List.getElem?_take_of_lt hi, List.getElem?_drop] at hc
    obtain ⟨x, h1, h2⟩ := hu _ _ hc
    exact ⟨x, by rw [Array.getElem?_extract, if_pos (by omega)]; exact h1, h2⟩
  | false =>
    rw [ha, cond_false] at h
    split at h
    · rename_i c hc
      subst h
      obtain ⟨x, h1, h2⟩ := hu _ _ hc
      exact ⟨x, by simp [part, hag, ha, h1], h2⟩
    · exact h.elim

theorem fieldV_ok (hE : EvOk E) {s : TypeId} {x : Operand} {f : Nat} (ho : o.op = .field s x f) (h : fieldV E.T s (ge x) f K) : ∃ r, StillOk E.P o ge H nx r ∧ K r := by
  unfold fieldV at h
  split at h
  · rename_i si hs
    split at h
    · rename_i fs cs hk hx
      split at h
      · rename_i off ft hf
        split at h
        · rename_i fi hft
          obtain ⟨r, hr, h⟩ := cellsK_res h
          refine ⟨r, SameV.ok fun B0 O0 β O w ev hh hB hop => ?_, hr⟩
          obtain ⟨us, hu, hsz, hus⟩ := (hx ▸ hop x (by simp [ho, Op.operands])).ag_inv
          obtain ⟨u, h1, h2⟩ := run_part hE hft hsz hus h
          obtain ⟨gs, g1, g2⟩ := run_und_struct hE.T hs hk w
          have hg : ∃ g : Field, gs[f]? = some g ∧ g.offset = off ∧ g.type = ft := by
            rw [g2] at hf
            simp only [List.getElem?_map, Array.getElem?_toList] at hf
            cases hq : gs[f]? with
            | none => simp [hq] at hf
            | some g => simp [hq] at hf; exact ⟨g, rfl, hf.1, hf.2⟩
          obtain ⟨g, hg1, hg2, hg3⟩ := hg
          refine ⟨u, ?_, h2⟩
          simp [execOp, ho, hu, Instr.field, g1, hg1, hg2, hg3, asAgg, h1]
        · exact h.elim
      · exact h.elim
    · exact h.elim
  · exact h.elim

def indexA (T : Tab) (t : TypeId) (x ix : AV) (K : AV → Prop) : Prop :=
  match T t with
  | some ti =>
    match ti.kind with
    | .slice e =>
      match T e with
      | some ei =>
        match x, ix with
        | .sl sz n cs, .v (.int _ i) => sz = ei.size ∧ 0 ≤ i ∧ i < n ∧ K (.pt cs (i.toNat * sz))
        | .ls k off sz n, .v (.int _ i) => sz = ei.size ∧ 0 ≤ i ∧ i < n ∧ K (.lp k (off + i.toNat * sz))
        | _, _ => False
      | none => False
    | .array n e =>
      match T e with
      | some ei =>
        match x, ix with
        | .pt cs j, .v (.int _ i) => 0 ≤ i ∧ i < n ∧ K (.pt cs (j + i.toNat * ei.size))
        | .lp k j, .v (.int _ i) => 0 ≤ i ∧ i < n ∧ K (.lp k (j + i.toNat * ei.size))
        | _, _ => False
      | none => False
    | _ => False
  | none => False

theorem run_indexAt_sl (hE : EvOk E) {t e : TypeId} {ti ei : TI} (ht : E.T t = some ti) (hk : ti.kind = .slice e) (he : E.T e = some ei) (w : World) (a : Addr) (n cap : Nat) (k : IntKind) (i : Int) (h0 : 0 ≤ i) (h1 : i < n) :
    (Instr.indexAt t (.slice (some a) n cap) (.int k i)).run E.P w = .ok (.pointer (some (a.add (i.toNat * ei.size)))) w := by
  have hu := run_und_slice hE.T ht hk w
  have hs := run_size hE.T he w
  simp [Instr.indexAt, asIntOf, hu, hs, h0, h1]

theorem run_indexAt_arr (hE : EvOk E) {t e : TypeId} {m : Nat} {ti ei : TI} (ht : E.T t = some ti) (hk : ti.kind = .array m e) (he : E.T e = some ei) (w : World) (a : Addr) (k : IntKind) (i : Int) (h0 : 0 ≤ i) (h1 : i < m) :
    (Instr.indexAt t (.pointer (some a)) (.int k i)).run E.P w = .ok (.pointer (some (a.add (i.toNat * ei.size)))) w := by
  have hu := run_und_array hE.T ht hk w
  have hs := run_size hE.T he w
  simp [Instr.indexAt, asIntOf, hu, hs, h0, h1, Instr.sureAddr]

theorem indexA_ok (hE : EvOk E) {t : TypeId} {x ix : Operand} (ho : o.op = .indexAddr t x ix) (h : indexA E.T t (ge x) (ge ix) K) : ∃ r, StillOk E.P o ge H nx r ∧ K r := by
  unfold indexA at h
  split at h
  · rename_i ti ht
    split at h
    · rename_i e hk
      split at h
      · rename_i ei he
        split at h
        · rename_i sz n cs ik i hx hix
          obtain ⟨rfl, h0, h1, h⟩ := h
          refine ⟨_, SameV.ok fun B0 O0 β O w ev hh hB hop => ?_, h⟩
          have hi := (hix ▸ hop ix (by simp [ho, Op.operands])).v_inv
          obtain ⟨hl, ⟨rfl, _, _⟩ | ⟨b, off, cap, hO, hb, hn, hu, hc⟩⟩ := (hx ▸ hop x (by simp [ho, Op.operands])).sl_inv
          · omega
          · refine ⟨.pointer (some ⟨b, off + i.toNat * ei.size, none⟩), ?_, .pl _ _ (Rp.mk_pt hO hb hc)⟩
            simp only [execOp, ho, hi, hu, Sem.run_bind, run_indexAt_sl hE ht hk he w _ _ _ _ _ h0 h1, addr_add, Result.andThen_ok, Sem.run_pure]
        · rename_i k off sz n ik i hx hix
          obtain ⟨rfl, h0, h1, h⟩ := h
          refine ⟨_, SameV.ok fun B0 O0 β O w ev hh hB hop => ?_, h⟩
          have hi := (hix ▸ hop ix (by simp [ho, Op.operands])).v_inv
          rcases (hx ▸ hop x (by simp [ho, Op.operands])).ls_inv with ⟨_, rfl, _⟩ | ⟨b, st, cap, hb, hn, hu, _⟩
          · omega
          · refine ⟨.pointer (some ⟨b, st + (off + i.toNat * ei.size), none⟩), ?_, .lp k _ b st hb⟩
            simp only [execOp, ho, hi, hu, Sem.run_bind, run_indexAt_sl hE ht hk he w _ _ _ _ _ h0 h1, addr_add, Result.andThen_ok, Sem.run_pure, Nat.add_assoc]
        · exact h.elim
      · exact h.elim
    · rename_i m e hk
      split at h
      · rename_i ei he
        split at h
        · rename_i cs j ik i hx hix
          obtain ⟨h0, h1, h⟩ := h
          refine ⟨_, SameV.ok fun B0 O0 β O w ev hh hB hop => ?_, h⟩
          have hi := (hix ▸ hop ix (by simp [ho, Op.operands])).v_inv
          obtain ⟨b, off, hO, hb, hu, hc⟩ := (hx ▸ hop x (by simp [ho, Op.operands])).pt_inv
          refine ⟨.pointer (some ⟨b, off + (j + i.toNat * ei.size), none⟩), ?_, .pl _ _ (Rp.mk_pt hO hb hc)⟩
          simp only [execOp, ho, hi, hu, Sem.run_bind, run_indexAt_arr hE ht hk he w _ _ _ h0 h1, addr_add, Result.andThen_ok, Sem.run_pure, Nat.add_assoc]
        · rename_i k j ik i hx hix
          obtain ⟨h0, h1, h⟩ := h
          refine ⟨_, SameV.ok fun B0 O0 β O w ev hh hB hop => ?_, h⟩
          have hi := (hix ▸ hop ix (by simp [ho, Op.operands])).v_inv
          obtain ⟨b, st, hb, hu⟩ := (hx ▸ hop x (by simp [ho, Op.operands])).lp_inv
          refine ⟨.pointer (some ⟨b, st + (j + i.toNat * ei.size), none⟩), ?_, .lp k _ b st hb⟩
          simp only [execOp, ho, hi, hu, Sem.run_bind, run_indexAt_arr hE ht hk he w _ _ _ h0 h1, addr_add, Result.andThen_ok, Sem.run_pure, Nat.add_assoc]
        · exact h.elim
      · exact h.elim
    · exact h.elim
  · exact h.elim

/-- The byte of a string. -/
def byteAt (s : ByteArray) (i : Nat) : Nat := (s.data.toList.getD i 0).toNat

def indexV (T : Tab) (t : TypeId) (x ix : AV) (K : AV → Prop) : Prop :=
  match T t with
  | some ti =>
    match ti.kind, x, ix with
    | .string, .v (.string s), .v (.int _ i) => 0 ≤ i ∧ i < s.size ∧ K (.v (.int .u8 (byteAt s i.toNat)))
    | .array n e, .ag cs, .v (.int _ i) =>
      match T e with
      | some ei => 0 ≤ i ∧ i < n ∧ cellsK ei cs (i.toNat * ei.size) K
      | none => False
    | _, _, _ => False
  | none => False

theorem indexV_ok (hE : EvOk E) {t : TypeId} {x ix : Operand} (ho : o.op = .index t x ix) (h : indexV E.T t (ge x) (ge ix) K) : ∃ r, StillOk E.P o ge H nx r ∧ K r := by
  unfold indexV at h
  split at h
  · rename_i ti ht
    split at h
    · rename_i s ik i hk hx hix
      obtain ⟨h0, h1, h⟩ := h
      refine ⟨_, SameV.ok fun B0 O0 β O w ev hh hB hop => ?_, h⟩
      have hi := (hix ▸ hop ix (by simp [ho, Op.operands])).v_inv
      have hxx := (hx ▸ hop x (by simp [ho, Op.operands])).v_inv
      have hu := run_und_string hE.T ht hk w
      have hlt : i.toNat < s.size := by omega
      refine ⟨_, ?_, R.vv _⟩
      simp only [execOp, ho, hi, hxx, Instr.index, asIntOf, Sem.run_bind, Sem.run_pure, Result.andThen_ok, hu, h0, if_true]
      have hlt' : i.toNat < s.data.size := hlt
      rw [getElem?_pos s i.toNat hlt]
      have : byteAt s i.toNat = (s[i.toNat]).toNat := by
        unfold byteAt
        rw [List.getD_eq_getElem?_getD, List.getElem?_eq_getElem (by simpa using hlt')]
        rfl
      simp [this]
    · rename_i m e cs ik i hk hx hix
      split at h
      · rename_i ei he
        obtain ⟨h0, h1, h⟩ := h
        obtain ⟨r, hr, h⟩ := cellsK_res h
        refine ⟨r, SameV.ok fun B0 O0 β O w ev hh hB hop => ?_, hr⟩
        have hi := (hix ▸ hop ix (by simp [ho, Op.operands])).v_inv
        obtain ⟨us, hu, hsz, hus⟩ := (hx ▸ hop x (by simp [ho, Op.operands])).ag_inv
        obtain ⟨u, g1, g2⟩ := run_part hE he hsz hus h
        have hd := run_und_array hE.T ht hk w
        have hs := run_size hE.T he w
        refine ⟨u, ?_, g2⟩
        simp [execOp, ho, hi, hu, Instr.index, asIntOf, hd, h0, h1, hs, g1]
      · exact h.elim
    · exact h.elim
  · exact h.elim

def exA (x : AV) (i : Nat) (K : AV → Prop) : Prop :=
  match x with
  | .tu vs => match vs[i]? with | some v => K v | none => False
  | _ => False

theorem exA_ok {x : Operand} {i : Nat} (ho : o.op = .extract x i) (h : exA (ge x) i K) : ∃ r, StillOk E.P o ge H nx r ∧ K r := by
  unfold exA at h
  split at h
  · rename_i vs hx
    split at h
    · rename_i v hv
      refine ⟨_, SameV.ok fun B0 O0 β O w ev hh hB hop => ?_, h⟩
      obtain ⟨us, hu, hsz, hus⟩ := (hx ▸ hop x (by simp [ho, Op.operands])).tu_inv
      obtain ⟨y, h1, h2⟩ := hus i v hv
      exact ⟨y, by simp [execOp, ho, hu, Instr.extract, h1], h2⟩
    · exact h.elim
  · exact h.elim

def nilA (x : AV) (K : AV → Prop) : Prop :=
  match x with
  | .pt cs i => K (.pt cs i)
  | .lp k off => K (.lp k off)
  | .ic t y => K (.ic t y)
  | _ => False

theorem nilA_ok {x : Operand} (ho : o.op = .nilCheck x) (h : nilA (ge x) K) : ∃ r, StillOk E.P o ge H nx r ∧ K r := by
  unfold nilA at h
  split at h
  · rename_i cs i hx
    refine ⟨_, SameV.ok fun B0 O0 β O w ev hh hB hop => ?_, h⟩
    have hr := (hx ▸ hop x (by simp [ho, Op.operands]))
    obtain ⟨b, off, _, _, hu, _⟩ := hr.pt_inv
    exact ⟨_, by simp [execOp, ho, hu], hu ▸ hr⟩
  · rename_i k off hx
    refine ⟨_, SameV.ok fun B0 O0 β O w ev hh hB hop => ?_, h⟩
    have hr := (hx ▸ hop x (by simp [ho, Op.operands]))
    obtain ⟨b, st, _, hu⟩ := hr.lp_inv
    exact ⟨_, by simp [execOp, ho, hu], hu ▸ hr⟩
  · rename_i t y hx
    refine ⟨_, SameV.ok fun B0 O0 β O w ev hh hB hop => ?_, h⟩
    have hr := (hx ▸ hop x (by simp [ho, Op.operands]))
    obtain ⟨z, hu, _⟩ := hr.ic_inv
    exact ⟨_, by simp [execOp, ho, hu], hu ▸ hr⟩
  · exact h.elim

def mkIf (T : Tab) (t : TypeId) (x : AV) (K : AV → Prop) : Prop :=
  match T t with
  | some ti => match ti.kind with
    | .iface => False
    | .other => False
    | _ => K (.ic t x)
  | none => False

theorem mkIf_ok (hE : EvOk E) {t : TypeId} {x : Operand} (ho : o.op = .makeInterface t x) (h : mkIf E.T t (ge x) K) : ∃ r, StillOk E.P o ge H nx r ∧ K r := by
  unfold mkIf at h
  split at h
  · rename_i ti ht
    have main : ∀ (hk : ∀ d, kindOk ti.kind d → ∀ ms, d ≠ .interface ms), K (.ic t (ge x)) → ∃ r, StillOk E.P o ge H nx r ∧ K r := by
      intro hk h
      refine ⟨_, SameV.ok fun B0 O0 β O w ev hh hB hop => ?_, h⟩
      obtain ⟨d, h1, h2⟩ := run_und hE.T ht w
      refine ⟨.iface t (ev x), ?_, .ic t _ _ (hop x (by simp [ho, Op.operands]))⟩
      simp only [execOp, ho, Instr.makeInterface, Sem.run_bind, h1, Result.andThen_ok]
      split
      · rename_i ms; exact absurd rfl (hk _ h2 ms)
      · simp
    split at h
    · exact h.elim
    · exact h.elim
    · rename_i h1 h2
      refine main (fun d hd ms e => ?_) h
      subst e
      cases hk : ti.kind <;> simp only [hk, kindOk] at hd
      · exact h1 hk
      · exact h2 hk
  · exact h.elim

theorem rs_map {β : Bt} {O : Nat → Prop} {w : World} {ops : Array Operand} {ev : Operand → Value} (h : ∀ x, x ∈ ops → R β O w (ge x) (ev x)) :
    (ops.map ev).size = (ops.toList.map ge).length ∧ ∀ (i : Nat) (a : AV), (ops.toList.map ge)[i]? = some a → ∃ u : Value, (ops.map ev)[i]? = some u ∧ R β O w a u := by
  refine ⟨by simp, fun i a ha => ?_⟩
  simp only [List.getElem?_map, Array.getElem?_toList] at ha
  cases hx : ops[i]? with
  | none => simp [hx] at ha
  | some x =>
    simp [hx] at ha
    exact ⟨ev x, by simp [hx], ha ▸ h x (Array.mem_of_getElem? hx)⟩

theorem mkFn_ok {f : Fn} {first captured : Array Operand} (ho : o.op = .makeFunc f first captured) (h : K (.fn f (first.toList.map ge) (captured.toList.map ge))) : ∃ r, StillOk E.P o ge H nx r ∧ K r := by
  refine ⟨_, SameV.ok fun B0 O0 β O w ev hh hB hop => ?_, h⟩
  obtain ⟨h1, h2⟩ := rs_map (ge := ge) (β := β) (O := O) (w := w) (ops := first) (ev := ev) (fun x hx => hop x (by simp [ho, Op.operands, hx]))
  obtain ⟨h3, h4⟩ := rs_map (ge := ge) (β := β) (O := O) (w := w) (ops := captured) (ev := ev) (fun x hx => hop x (by simp [ho, Op.operands, hx]))
  exact ⟨.func f (first.map ev) (captured.map ev), by simp [execOp, ho, Instr.makeFunc], R.mk_fn h1 h3 h2 h4⟩

/-! ### slices -/
def bnd (x : Option AV) (d : Int) (K : Int → Prop) : Prop :=
  match x with
  | none => K d
  | some (.v (.int _ i)) => K i
  | _ => False

def sliceA (T : Tab) (t : TypeId) (x : AV) (lo hi : Option AV) (K : AV → Prop) : Prop :=
  match T t with
  | some ti =>
    match ti.kind, x with
    | .slice e, .sl sz n cs =>
      match T e with
      | some ei => sz = ei.size ∧ bnd lo 0 fun l => bnd hi n fun h => 0 ≤ l ∧ l ≤ h ∧ h ≤ n ∧ K (.sl sz (h.toNat - l.toNat) ((cs.drop (l.toNat * sz)).take ((h.toNat - l.toNat) * sz)))
      | none => False
    | .string, .v (.string s) => bnd lo 0 fun l => bnd hi s.size fun h => 0 ≤ l ∧ l ≤ h ∧ h ≤ s.size ∧ K (.v (.string (s.extract l.toNat h.toNat)))
    | _, _ => False
  | none => False

theorem run_bounds (P : Program) (w : World) (isSlice : Bool) (len cap : Nat) (lo hi : Option Value) (l h : Int) (h0 : 0 ≤ l) (h1 : l ≤ h) (h2 : h ≤ cap)
    (hlo : (lo = none ∧ l = 0) ∨ ∃ k, lo = some (.int k l)) (hhi : (hi = none ∧ h = len) ∨ ∃ k, hi = some (.int k h)) :
    (Instr.sliceBounds isSlice len cap lo hi none).run P w = .ok (l.toNat, h.toNat, cap) w := by
  have a1 : 0 ≤ h := by omega
  have a2 : l ≤ (h.toNat : Int) := by omega
  rcases hlo with ⟨rfl, rfl⟩ | ⟨k, rfl⟩ <;> rcases hhi with ⟨rfl, rfl⟩ | ⟨k', rfl⟩
  · simp [Instr.sliceBounds]
  · simp [Instr.sliceBounds, Instr.sliceBound, asIntOf, a1, h2]
  · simp [Instr.sliceBounds, Instr.sliceBound, asIntOf, h0, h1]
  · have e : (h.toNat : Int) = h := Int.toNat_of_nonneg a1
    simp only [Instr.sliceBounds, Instr.sliceBound, asIntOf, Sem.run_bind, Sem.run_pure, Result.andThen_ok, a1, h2, and_self, if_true, h0, e, h1]

theorem bnd_inv {β : Bt} {O : Nat → Prop} {w : World} {x : Option Operand} {d : Int} {ev : Operand → Value} {K : Int → Prop} (hx : ∀ y, x = some y → R β O w (ge y) (ev y)) (h : bnd (x.map ge) d K) :
    ∃ l, K l ∧ ((x.map ev = none ∧ l = d) ∨ ∃ k, x.map ev = some (.int k l)) := by
  cases x with
  | none => exact ⟨d, h, .inl ⟨rfl, rfl⟩⟩
  | some y =>
    simp only [Option.map_some, bnd] at h
    split at h
    · cases ‹some _ = none›
    · rename_i k i he
      have he : ge y = .v (.int k i) := Option.some.inj he
      exact ⟨i, h, .inr ⟨k, by simp [(he ▸ hx y rfl).v_inv]⟩⟩
    · exact h.elim

theorem bnd_res {x : Option AV} {d : Int} {K : Int → Prop} (h : bnd x d K) : ∃ l, K l ∧ bnd x d (fun i => i = l) := by
  unfold bnd at *
  split at h
  · exact ⟨_, h, rfl⟩
  · exact ⟨_, h, rfl⟩
  · exact h.elim

theorem sliceA_ok (hE : EvOk E) {t : TypeId} {x : Operand} {lo hi : Option Operand} (ho : o.op = .slice t x lo hi none) (h : sliceA E.T t (ge x) (lo.map ge) (hi.map ge) K) : ∃ r, StillOk E.P o ge H nx r ∧ K r := by
  unfold sliceA at h
  split at h
  · rename_i ti ht
    split at h
    · rename_i e sz n cs hk hx
      split at h
      · rename_i ei he
        obtain ⟨rfl, h⟩ := h
        obtain ⟨l, h, hl⟩ := bnd_res h
        obtain ⟨hh, h, hhh⟩ := bnd_res h
        obtain ⟨h0, h1, h2, h⟩ := h
        refine ⟨_, SameV.ok fun B0 O0 β O w ev hc hB hop => ?_, h⟩
        obtain ⟨l', el, hlo⟩ := bnd_inv (ge := ge) (ev := ev) (β := β) (O := O) (w := w) (x := lo) (fun y hy => hop y (by simp [ho, Op.operands, hy])) hl
        obtain ⟨h', eh, hhi⟩ := bnd_inv (ge := ge) (ev := ev) (β := β) (O := O) (w := w) (x := hi) (fun y hy => hop y (by simp [ho, Op.operands, hy])) hhh
        rw [el] at hlo
        rw [eh] at hhi
        have hu := run_und_slice hE.T ht hk w
        have hs := run_size hE.T he w
        obtain ⟨hlen, ⟨rfl, rfl, hv⟩ | ⟨b, off, cap, hO, hb, hn, hv, hcell⟩⟩ := (hx ▸ hop x (by simp [ho, Op.operands])).sl_inv
        · have e1 : l = 0 := by omega
          have e2 : hh = 0 := by omega
          subst e1 e2
          have hbd := run_bounds E.P w true 0 0 (lo.map ev) (hi.map ev) 0 0 (by omega) (by omega) (by omega) hlo hhi
          refine ⟨.slice none 0 0, ?_, by simpa using R.pl _ _ (Rp.nil _)⟩
          simp [execOp, ho, hv, Instr.sliceAt, Instr.slice, hu, hbd, hs]
        · have hbd := run_bounds E.P w true n cap (lo.map ev) (hi.map ev) l hh h0 h1 (by omega) hlo hhi
          by_cases hm : cap = l.toNat
          · have e0 : hh.toNat - l.toNat = 0 := by omega
            subst hm
            refine ⟨.slice (some ⟨b, off, none⟩) 0 0, ?_, ?_⟩
            · simp only [execOp, ho, hv, Instr.sliceAt, Instr.slice, Sem.run_bind, hu, Option.map_none, hbd, hs, Result.andThen_ok, Sem.run_pure, if_true, Nat.sub_self, e0]
            · rw [e0]
              exact .pl _ _ (Rp.mk_sl hO hb (by omega) (by simp) (fun i c hi => by simp at hi))
          · refine ⟨.slice (some ⟨b, off + l.toNat * ei.size, none⟩) (hh.toNat - l.toNat) (cap - l.toNat), ?_, ?_⟩
            · simp [execOp, ho, hv, Instr.sliceAt, Instr.slice, hu, hbd, hs, hm, addr_add]
            · refine .pl _ _ (Rp.mk_sl hO hb (by omega) ?_ fun i c hi => ?_)
              · have : hh.toNat ≤ n := by omega
                have : hh.toNat * ei.size ≤ n * ei.size := Nat.mul_le_mul_right _ this
                rw [List.length_take, List.length_drop, hlen, Nat.sub_mul]
                omega
              · rw [List.getElem?_take] at hi
                split at hi
                · rw [List.getElem?_drop] at hi
                  obtain ⟨y, h3, h4⟩ := hcell _ _ hi
                  exact ⟨y, by rw [Nat.add_assoc]; exact h3, h4⟩
                · cases hi
      · exact h.elim
    · rename_i s hk hx
      obtain ⟨l, h, hl⟩ := bnd_res h
      obtain ⟨hh, h, hhh⟩ := bnd_res h
      obtain ⟨h0, h1, h2, h⟩ := h
      refine ⟨_, SameV.ok fun B0 O0 β O w ev hc hB hop => ?_, h⟩
      obtain ⟨l', el, hlo⟩ := bnd_inv (ge := ge) (ev := ev) (β := β) (O := O) (w := w) (x := lo) (fun y hy => hop y (by simp [ho, Op.operands, hy])) hl
      obtain ⟨h', eh, hhi⟩ := bnd_inv (ge := ge) (ev := ev) (β := β) (O := O) (w := w) (x := hi) (fun y hy => hop y (by simp [ho, Op.operands, hy])) hhh
      rw [el] at hlo
      rw [eh] at hhi
      have hu := run_und_string hE.T ht hk w
      have hv := (hx ▸ hop x (by simp [ho, Op.operands])).v_inv
      have hbd := run_bounds E.P w false s.size s.size (lo.map ev) (hi.map ev) l hh h0 h1 (by omega) hlo hhi
      exact ⟨.string (s.extract l.toNat hh.toNat), by simp [execOp, ho, hv, Instr.sliceAt, Instr.slice, hu, hbd], R.vv _⟩
    · exact h.elim
  · exact h.elim

/-! ### built-in functions that only read -/
def lenA (T : Tab) (t : TypeId) (x : AV) (K : AV → Prop) : Prop :=
  match T t with
  | some ti =>
    match ti.kind, x with
    | .slice _, .sl _ n _ => K (.v (.int .i64 n))
    | .slice _, .ls _ _ _ n => K (.v (.int .i64 n))
    | .slice _, .v (.slice _ n _) => K (.v (.int .i64 n))
    | .string, .v (.string s) => K (.v (.int .i64 s.size))
    | .array n _, _ => K (.v (.int .i64 n))
    | _, _ => False
  | none => False

theorem len_ok (hE : EvOk E) {t : TypeId} {x : Operand} (ho : o.op = .call { callee := .builtin .len, args := #[x], argTypes := #[t] }) (h : lenA E.T t (ge x) K) : ∃ r, StillOk E.P o ge H nx r ∧ K r := by
  unfold lenA at h
  split at h
  · rename_i ti ht
    split at h
    · rename_i e sz n cs hk hx
      refine ⟨_, SameV.ok fun B0 O0 β O w ev hc hB hop => ?_, h⟩
      have hu := run_und_slice hE.T ht hk w
      have hr := hx ▸ hop x (by simp [ho, Op.operands, Call.operands])
      have : ∃ a c, ev x = .slice a n c := by
        obtain ⟨_, ⟨rfl, _, hv⟩ | ⟨b, off, cap, _, _, _, hv, _⟩⟩ := hr.sl_inv
        · exact ⟨_, _, hv⟩
        · exact ⟨_, _, hv⟩
      obtain ⟨a, c, hv⟩ := this
      exact ⟨_, by simp [execOp, ho, resolve, invoke, builtin, Builtin.len_, hu, hv, goInt], R.vv _⟩
    · rename_i e k off sz n hk hx
      refine ⟨_, SameV.ok fun B0 O0 β O w ev hc hB hop => ?_, h⟩
      have hu := run_und_slice hE.T ht hk w
      have hr := hx ▸ hop x (by simp [ho, Op.operands, Call.operands])
      have : ∃ a c, ev x = .slice a n c := by
        rcases hr.ls_inv with ⟨_, rfl, a, hv, _⟩ | ⟨b, st, cap, _, _, hv, _⟩
        · exact ⟨_, _, hv⟩
        · exact ⟨_, _, hv⟩
      obtain ⟨a, c, hv⟩ := this
      exact ⟨_, by simp [execOp, ho, resolve, invoke, builtin, Builtin.len_, hu, hv, goInt], R.vv _⟩
    · rename_i e a n c hk hx
      refine ⟨_, SameV.ok fun B0 O0 β O w ev hc hB hop => ?_, h⟩
      have hu := run_und_slice hE.T ht hk w
      have hv := (hx ▸ hop x (by simp [ho, Op.operands, Call.operands])).v_inv
      exact ⟨_, by simp [execOp, ho, resolve, invoke, builtin, Builtin.len_, hu, hv, goInt], R.vv _⟩
    · rename_i s hk hx
      refine ⟨_, SameV.ok fun B0 O0 β O w ev hc hB hop => ?_, h⟩
      have hu := run_und_string hE.T ht hk w
      have hv := (hx ▸ hop x (by simp [ho, Op.operands, Call.operands])).v_inv
      exact ⟨_, by simp [execOp, ho, resolve, invoke, builtin, Builtin.len_, hu, hv, goInt], R.vv _⟩
    · rename_i n e hk
      refine ⟨_, SameV.ok fun B0 O0 β O w ev hc hB hop => ?_, h⟩
      have hu := run_und_array hE.T ht hk w
      exact ⟨_, by simp [execOp, ho, resolve, invoke, builtin, Builtin.len_, hu, goInt], R.vv _⟩
    · exact h.elim
  · exact h.elim

def mm (lt : Int → Int → Bool) (k : IntKind) (a : Int) : List AV → (AV → Prop) → Prop
  | [], K => K (.v (.int k a))
  | c :: l, K => match c with
    | .v (.int _ b) => mm lt k (bif lt a b then b else a) l K
    | _ => False

def mmA (isMax : Bool) (xs : List AV) (K : AV → Prop) : Prop :=
  match xs with
  | .v (.int k a) :: l => mm (fun a b => bif isMax then decide (a < b) else decide (b < a)) k a l K
  | _ => False

theorem mm_run (P : Program) (w : World) (f : Value → Value → Sem Value) (lt : Int → Int → Bool) (hf : ∀ k a k' b, (f (.int k a) (.int k' b)).run P w = .ok (.int k (bif lt a b then b else a)) w) :
    ∀ (l : List AV) (us : List Value) (k : IntKind) (a : Int), us.length = l.length → (∀ (i : Nat) (c : AV), l[i]? = some c → ∀ x : Value, c = .v x → us[i]? = some x) → mm lt k a l K → ∃ r : Int, K (.v (.int k r)) ∧ (us.foldlM f (.int k a) : Sem Value).run P w = .ok (.int k r) w
  | [], us, k, a, hl, _, h => by
    have : us = [] := List.length_eq_zero_iff.1 (by simpa using hl)
    subst this
    exact ⟨a, h, rfl⟩
  | c :: l, us, k, a, hl, hu, h => by
    cases us with
    | nil => simp at hl
    | cons u us =>
      unfold mm at h
      split at h
      · rename_i k' b
        have hu0 := hu 0 _ rfl _ rfl
        simp at hu0
        subst hu0
        obtain ⟨r, h1, h2⟩ := mm_run P w f lt hf l us k _ (by simpa using hl) (fun i c hc x hx => by simpa using hu (i + 1) c (by simpa using hc) x hx) h
        refine ⟨r, h1, ?_⟩
        rw [List.foldlM_cons, Sem.run_bind, hf, Result.andThen_ok, h2]
      · exact h.elim

theorem mm_ok {b : Builtin} {isMax : Bool} {xs : Array Operand} {ts : Array TypeId} (hb : (isMax = true ∧ b = .max) ∨ (isMax = false ∧ b = .min)) (ho : o.op = .call { callee := .builtin b, args := xs, argTypes := ts })
    (h : mmA isMax (xs.toList.map ge) K) : ∃ r, StillOk E.P o ge H nx r ∧ K r := by
  unfold mmA at h
  split at h
  · rename_i k a l hx
    have hres : ∀ (f : Value → Value → Sem Value) (lt : Int → Int → Bool), (∀ w k a k' b, (f (.int k a) (.int k' b)).run E.P w = .ok (.int k (bif lt a b then b else a)) w) → ∀ (l : List AV) (a : Int), mm lt k a l K →
        ∃ r : Int, K (.v (.int k r)) ∧ mm lt k a l (fun x => x = .v (.int k r)) := by
      intro f lt hf l
      induction l with
      | nil => intro a h; exact ⟨a, h, rfl⟩
      | cons c l ih =>
        intro a h
        unfold mm at h ⊢
        split at h
        · exact ih _ h
        · exact h.elim
    have fin : ∀ (f : Value → Value → Sem Value) (lt : Int → Int → Bool), (∀ w k a k' b, (f (.int k a) (.int k' b)).run E.P w = .ok (.int k (bif lt a b then b else a)) w) → mm lt k a l K →
        (∀ (ev : Operand → Value) (w : World) (x : Value) (rest : List Value), (xs.map ev).toList = x :: rest → (execOp ev o).run E.P w = (do pure (Next.value (← rest.foldlM f x)) : Sem Next).run E.P w) → ∃ r, StillOk E.P o ge H nx r ∧ K r := by
      intro f lt hf h he
      obtain ⟨r, hr, h⟩ := hres f lt hf l a h
      refine ⟨_, SameV.ok fun B0 O0 β O w ev hc hB hop => ?_, hr⟩
      obtain ⟨hs, hu⟩ := rs_map (ge := ge) (β := β) (O := O) (w := w) (ops := xs) (ev := ev) (fun x hx => hop x (by simp [ho, Op.operands, Call.operands, hx]))
      rw [hx] at hs hu
      obtain ⟨u0, us, hus⟩ : ∃ u0 us, (xs.map ev).toList = u0 :: us := by
        cases hq : (xs.map ev).toList with
        | nil => rw [← Array.length_toList, hq] at hs; simp at hs
        | cons a b => exact ⟨a, b, rfl⟩
      have hg : ∀ (i : Nat) (c : AV), (AV.v (.int k a) :: l)[i]? = some c → ∀ x, c = .v x → (u0 :: us)[i]? = some x := by
        intro i c hc x hcx
        obtain ⟨u, h1, h2⟩ := hu i c hc
        rw [hcx] at h2
        rw [← hus, Array.getElem?_toList, h1, h2.v_inv]
      have e0 : u0 = .int k a := by simpa using hg 0 _ rfl _ rfl
      subst e0
      obtain ⟨r', h1, h2⟩ := mm_run E.P w f lt (hf w) l us k a (by rw [← Array.length_toList, hus] at hs; simpa using hs) (fun i c hc x hx => by simpa using hg (i + 1) c (by simpa using hc) x hx) h
      have h1 : r' = r := by simpa using h1
      subst h1
      refine ⟨.int k r', ?_, R.vv _⟩
      rw [he ev w _ _ hus]
      simp only [Sem.run_bind, h2, Result.andThen_ok, Sem.run_pure]
    rcases hb with ⟨rfl, rfl⟩ | ⟨rfl, rfl⟩
    · exact fin Builtin.max2 _ (fun w k a k' b => by simp only [Builtin.max2, Sem.run_pure, cond_true, gt_iff_lt]; by_cases h : a < b <;> simp [h]) h (fun ev w x rest hxs => by
        simp only [execOp, ho, resolve, Sem.run_bind, Sem.run_pure, Result.andThen_ok, invoke, builtin, Builtin.max_, hxs])
    · exact fin Builtin.min2 _ (fun w k a k' b => by simp only [Builtin.min2, Sem.run_pure, cond_false]; by_cases h : b < a <;> simp [h]) h (fun ev w x rest hxs => by
        simp only [execOp, ho, resolve, Sem.run_bind, Sem.run_pure, Result.andThen_ok, invoke, builtin, Builtin.min_, hxs])
  · exact h.elim

end
end Go.Ab

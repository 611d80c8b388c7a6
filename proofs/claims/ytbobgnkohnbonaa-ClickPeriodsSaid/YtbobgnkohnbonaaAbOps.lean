/- The abstract machine, part 2: operations that change no memory that was there: what they come to, as a predicate over abstract values, and that this is so. -/
import Derived.Test.YtbobgnkohnbonaaAbCore
set_option linter.unusedSimpArgs false
set_option linter.unusedVariables false
namespace Go.Ab
open Go.RowKit

/-! ### types -/
inductive TK where
  | slice (e : TypeId)
  | array (n : Nat) (e : TypeId)
  | struct (fs : List (Nat × TypeId))
  | int (k : IntKind)
  | string
  | bool
  | pointer (e : TypeId)
  | iface
  | other

structure TI where
  size : Nat
  bytes : Nat
  agg : Bool
  zero : AV
  kind : TK

def ofV : Value → AV
  | .agg cs => .ag (cs.toList.map .v)
  | .tuple cs => .tu (cs.toList.map .v)
  | .func f a b => .fn f (a.toList.map .v) (b.toList.map .v)
  | x => .v x

def kindOk : TK → TypeDesc → Prop
  | .slice e, .slice e' => e = e'
  | .array n e, .array n' e' => n = n' ∧ e = e'
  | .struct fs, .struct gs => fs = gs.toList.map (fun f => (f.offset, f.type))
  | .int k, .int k' => k = k'
  | .string, .string => True
  | .bool, .bool => True
  | .pointer e, .pointer e' => e = e'
  | .iface, .interface _ => True
  | .other, _ => True
  | _, _ => False

structure TIok (P : Program) (t : TypeId) (ti : TI) : Prop where
  info : ∃ i, P.info? t = some i ∧ i.size = ti.size ∧ i.bytes = ti.bytes ∧ ∃ z, i.zero = some z ∧ ofV z = ti.zero ∧ z.cells.size = ti.size
  und : ∃ d, P.underlying t = some d ∧ kindOk ti.kind d ∧ ti.agg = (match d with | .struct _ | .array _ _ => true | _ => false)

abbrev Tab := Nat → Option TI
def TOk (P : Program) (T : Tab) : Prop := ∀ t ti, T t = some ti → TIok P t ti

section
variable {P : Program} {T : Tab} (hT : TOk P T) {t : TypeId} {ti : TI}
include hT
theorem run_size (h : T t = some ti) (w : World) : (sizeOf t).run P w = .ok ti.size w := by
  obtain ⟨⟨i, h1, h2, _⟩, _⟩ := hT t ti h
  simp [sizeOf, typeInfo, program, Sem.run, h1, h2]
theorem run_info (h : T t = some ti) (w : World) : ∃ i : TypeInfo, (typeInfo t).run P w = .ok i w ∧ i.size = ti.size ∧ i.bytes = ti.bytes := by
  obtain ⟨⟨i, h1, h2, h3, _⟩, _⟩ := hT t ti h
  exact ⟨i, by simp [typeInfo, program, Sem.run, h1], h2, h3⟩
theorem run_agg (h : T t = some ti) (w : World) : (isAgg t).run P w = .ok ti.agg w := by
  obtain ⟨_, ⟨d, h1, _, h3⟩⟩ := hT t ti h
  simp only [isAgg, underlying, program]
  simp [Sem.run, h1]
  cases d <;> simp [h3]
theorem run_und (h : T t = some ti) (w : World) : ∃ d, (underlying t).run P w = .ok d w ∧ kindOk ti.kind d := by
  obtain ⟨_, ⟨d, h1, h2, _⟩⟩ := hT t ti h
  exact ⟨d, by simp [underlying, program, Sem.run, h1], h2⟩
theorem run_und_slice {e : TypeId} (h : T t = some ti) (hk : ti.kind = .slice e) (w : World) : (underlying t).run P w = .ok (.slice e) w := by
  obtain ⟨d, h1, h2⟩ := run_und hT h w
  rw [hk] at h2
  cases d <;> simp only [kindOk] at h2
  rw [h1, h2]
theorem run_und_array {n : Nat} {e : TypeId} (h : T t = some ti) (hk : ti.kind = .array n e) (w : World) : (underlying t).run P w = .ok (.array n e) w := by
  obtain ⟨d, h1, h2⟩ := run_und hT h w
  rw [hk] at h2
  cases d <;> simp only [kindOk] at h2
  rw [h1, h2.1, h2.2]
theorem run_und_int {k : IntKind} (h : T t = some ti) (hk : ti.kind = .int k) (w : World) : (underlying t).run P w = .ok (.int k) w := by
  obtain ⟨d, h1, h2⟩ := run_und hT h w
  rw [hk] at h2
  cases d <;> simp only [kindOk] at h2
  rw [h1, h2]
theorem run_und_string (h : T t = some ti) (hk : ti.kind = .string) (w : World) : (underlying t).run P w = .ok .string w := by
  obtain ⟨d, h1, h2⟩ := run_und hT h w
  rw [hk] at h2
  cases d <;> simp only [kindOk] at h2
  rw [h1]
theorem run_und_bool (h : T t = some ti) (hk : ti.kind = .bool) (w : World) : (underlying t).run P w = .ok .bool w := by
  obtain ⟨d, h1, h2⟩ := run_und hT h w
  rw [hk] at h2
  cases d <;> simp only [kindOk] at h2
  rw [h1]
theorem run_und_ptr {e : TypeId} (h : T t = some ti) (hk : ti.kind = .pointer e) (w : World) : (underlying t).run P w = .ok (.pointer e) w := by
  obtain ⟨d, h1, h2⟩ := run_und hT h w
  rw [hk] at h2
  cases d <;> simp only [kindOk] at h2
  rw [h1, h2]
theorem run_und_struct {fs : List (Nat × TypeId)} (h : T t = some ti) (hk : ti.kind = .struct fs) (w : World) : ∃ gs : Array Field, (underlying t).run P w = .ok (.struct gs) w ∧ fs = gs.toList.map (fun f => (f.offset, f.type)) := by
  obtain ⟨d, h1, h2⟩ := run_und hT h w
  rw [hk] at h2
  cases d <;> simp only [kindOk] at h2
  exact ⟨_, h1, h2⟩
theorem run_zero (h : T t = some ti) (w : World) : ∃ z, (zeroValue t).run P w = .ok z w ∧ ofV z = ti.zero ∧ z.cells.size = ti.size := by
  obtain ⟨⟨i, h1, _, _, z, h4, h5, h6⟩, _⟩ := hT t ti h
  exact ⟨z, by simp [zeroValue, typeInfo, program, Sem.run, h1, h4], h5, h6⟩
end

theorem R.ofV {β : Bt} {O : Nat → Prop} {w : World} (x : Value) : R β O w (Ab.ofV x) x := by
  cases x <;> simp only [Ab.ofV]
  case agg cs => exact R.mk_ag (by simp) (fun i c hc => by simp at hc; obtain ⟨u, h1, h2⟩ := hc; exact ⟨u, h1, h2 ▸ R.vv u⟩)
  case tuple cs => exact R.mk_tu (by simp) (fun i c hc => by simp at hc; obtain ⟨u, h1, h2⟩ := hc; exact ⟨u, h1, h2 ▸ R.vv u⟩)
  case func f a b => exact R.mk_fn (by simp) (by simp) (fun i c hc => by simp at hc; obtain ⟨u, h1, h2⟩ := hc; exact ⟨u, h1, h2 ▸ R.vv u⟩) (fun i c hc => by simp at hc; obtain ⟨u, h1, h2⟩ := hc; exact ⟨u, h1, h2 ▸ R.vv u⟩)
  all_goals exact R.vv _

/-! ### cells of a value -/
def AV.cells? : AV → Option (List AV)
  | .ag cs => some cs
  | .v (.agg _) => none
  | .any => none
  | a => some [a]

theorem R.cells {β : Bt} {O : Nat → Prop} {w : World} {a : AV} {u : Value} {cs : List AV} (h : R β O w a u) (hc : a.cells? = some cs) :
    u.cells.size = cs.length ∧ ∀ (i : Nat) (c : AV), cs[i]? = some c → ∃ x : Value, u.cells[i]? = some x ∧ R β O w c x := by
  have one : ∀ (u : Value), R β O w a u → u.cells = #[u] → cs = [a] → u.cells.size = cs.length ∧ ∀ (i : Nat) (c : AV), cs[i]? = some c → ∃ x : Value, u.cells[i]? = some x ∧ R β O w c x := by
    intro u h e1 e2
    subst e2
    refine ⟨by simp [e1], fun i c hi => ?_⟩
    cases i with
    | zero => simp at hi; subst hi; exact ⟨u, by simp [e1], h⟩
    | succ i => simp at hi
  cases a with
  | v x =>
    have := h.v_inv
    subst this
    cases u <;> simp only [AV.cells?, Option.some.injEq, reduceCtorEq] at hc <;> exact one _ h rfl hc.symm
  | any => simp [AV.cells?] at hc
  | ag ds =>
    simp only [AV.cells?, Option.some.injEq] at hc
    subst hc
    obtain ⟨us, rfl, h1, h2⟩ := h.ag_inv
    exact ⟨h1, h2⟩
  | sl sz n ds =>
    simp only [AV.cells?, Option.some.injEq] at hc
    obtain ⟨_, h | ⟨b, off, cap, _, _, _, h, _⟩⟩ := h.sl_inv
    · obtain ⟨_, _, rfl⟩ := h; exact one _ ‹_› rfl hc.symm
    · subst h; exact one _ ‹_› rfl hc.symm
  | pt ds i =>
    simp only [AV.cells?, Option.some.injEq] at hc
    obtain ⟨b, off, _, _, rfl, _⟩ := h.pt_inv
    exact one _ ‹_› rfl hc.symm
  | tu ds =>
    simp only [AV.cells?, Option.some.injEq] at hc
    obtain ⟨us, rfl, _, _⟩ := h.tu_inv
    exact one _ ‹_› rfl hc.symm
  | fn f ds es =>
    simp only [AV.cells?, Option.some.injEq] at hc
    obtain ⟨us, vs, rfl, _⟩ := h.fn_inv
    exact one _ ‹_› rfl hc.symm
  | ic t x =>
    simp only [AV.cells?, Option.some.injEq] at hc
    obtain ⟨y, rfl, _⟩ := h.ic_inv
    exact one _ ‹_› rfl hc.symm
  | lp k off =>
    simp only [AV.cells?, Option.some.injEq] at hc
    obtain ⟨b, st, _, rfl⟩ := h.lp_inv
    exact one _ ‹_› rfl hc.symm
  | ls k off sz n =>
    simp only [AV.cells?, Option.some.injEq] at hc
    rcases h.ls_inv with ⟨_, _, _, rfl, _⟩ | ⟨b, st, cap, _, _, rfl, _⟩
    · exact one _ ‹_› rfl hc.symm
    · exact one _ ‹_› rfl hc.symm

/-! ### what an operation is asked -/
/-- One value, in every world. -/
def StillOk (P : Program) (o : Oper) (ge : Operand → AV) (H : Hp) (nx : Nat) (r : AV) : Prop :=
  ∀ (B0 : Nat → Prop) (O0 : Nat → Prop) (β : Bt) (O : Nat → Prop) (w : World) (ev : Operand → Value), HC B0 O0 β O H nx w → Bk B0 w →
    (∀ x, x ∈ o.op.operands → R β O w (ge x) (ev x)) →
    match (execOp ev o).run P w with
    | .ok (.value u) w' => Gr w w' ∧ R β O w' r u
    | .ok .skip w' => Gr w w' ∧ R β O w' r undef
    | .ok (.enter f args) w' => w' = w ∧ Calls P f args w (fun e w'' => ∃ u, e = .returned u ∧ Gr w w'' ∧ R β O w'' r u)
    | _ => False

/-- A value in the same world. -/
theorem StillOk.pure {P : Program} {o : Oper} {ge : Operand → AV} {H : Hp} {nx : Nat} {r : AV}
    (h : ∀ (B0 : Nat → Prop) (O0 : Nat → Prop) (β : Bt) (O : Nat → Prop) (w : World) (ev : Operand → Value), HC B0 O0 β O H nx w → Bk B0 w →
      (∀ x, x ∈ o.op.operands → R β O w (ge x) (ev x)) → ∃ u, (execOp ev o).run P w = .ok (.value u) w ∧ R β O w r u) : StillOk P o ge H nx r := by
  intro B0 O0 β O w ev hc hB hx
  obtain ⟨u, h1, h2⟩ := h B0 O0 β O w ev hc hB hx
  rw [h1]
  exact ⟨Below.refl _ _, h2⟩

/-- The addition of an offset. -/
theorem addr_add (b off n : Nat) : (⟨b, off, none⟩ : Addr).add n = ⟨b, off + n, none⟩ := by
  unfold Addr.add
  split <;> simp_all

/-! ### a call -/
def Callable (P : Program) (f : FuncId) : Prop := ∀ (args : Array Value) (w : World), (callFunc f args).run P w = .ok (.enter f args) w

def Rs (β : Bt) (O : Nat → Prop) (w : World) (avs : List AV) (vs : Array Value) : Prop :=
  vs.size = avs.length ∧ ∀ (i : Nat) (a : AV), avs[i]? = some a → ∃ u : Value, vs[i]? = some u ∧ R β O w a u

def CallOk (P : Program) (f : FuncId) (H : Hp) (nx : Nat) (avs : List AV) (r : AV) : Prop :=
  Callable P f ∧ ∀ (B0 : Nat → Prop) (O0 : Nat → Prop) (β : Bt) (O : Nat → Prop) (w : World) (vs : Array Value), HC B0 O0 β O H nx w → Bk B0 w → Rs β O w avs vs →
    Calls P f vs w (fun e w' => ∃ u, e = .returned u ∧ Gr w w' ∧ R β O w' r u)

/-- A call in a function's text: some value that the contract gives. -/
def callS (P : Program) (f : FuncId) (H : Hp) (nx : Nat) (avs : List AV) (K : AV → Prop) : Prop := ∃ r, CallOk P f H nx avs r ∧ K r

/-- A parting on a Bool: the walk stands here till it is told. -/
def bsplit (c : Bool) (F : Bool → Prop) : Prop := (c = true → F true) ∧ (c = false → F false)
@[congr] theorem bsplit_congr {c c' : Bool} {F : Bool → Prop} (h : c = c') : bsplit c F = bsplit c' F := by rw [h]
theorem bsplit_true (F : Bool → Prop) : bsplit true F = F true := by simp [bsplit]
theorem bsplit_false (F : Bool → Prop) : bsplit false F = F false := by simp [bsplit]
theorem bsplit_intro {c : Bool} {F : Bool → Prop} (h1 : c = true → F true) (h2 : c = false → F false) : bsplit c F := ⟨h1, h2⟩
theorem bsplit_of {c : Bool} {F : Bool → Prop} (h : bsplit c F) : F c := by cases c; exact h.2 rfl; exact h.1 rfl
@[congr] theorem callS_congr {P : Program} {f : FuncId} {H : Hp} {nx : Nat} {avs avs' : List AV} {K : AV → Prop} (h : avs = avs') : callS P f H nx avs K = callS P f H nx avs' K := by rw [h]

end Go.Ab

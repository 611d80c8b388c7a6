/- The abstract machine, part 3: the still operations, one by one. -/
import Derived.Test.YtbobgnkohnbonaaAbOps
set_option linter.unusedSimpArgs false
set_option linter.unusedVariables false
namespace Go.Ab
open Go.RowKit

structure Ev where
  P : Program
  T : Tab
  M : TypeId → String → Option FuncId
  Q : TypeId → Option Nat
  ro : Option Nat := none
  Y : Option Yd := none

/-- The same, in a round of the loop l; for the iterator of a loop. -/
def Ev.inR (E : Ev) (l : Nat) : Ev := { E with ro := some l }
def Ev.withY (E : Ev) (y : Yd) : Ev := { E with Y := some y }
theorem inR_P (E : Ev) (l : Nat) : (E.inR l).P = E.P := rfl
theorem inR_T (E : Ev) (l : Nat) : (E.inR l).T = E.T := rfl
theorem inR_M (E : Ev) (l : Nat) : (E.inR l).M = E.M := rfl
theorem inR_Q (E : Ev) (l : Nat) : (E.inR l).Q = E.Q := rfl
theorem inR_Y (E : Ev) (l : Nat) : (E.inR l).Y = E.Y := rfl
theorem withY_P (E : Ev) (y : Yd) : (E.withY y).P = E.P := rfl
theorem withY_T (E : Ev) (y : Yd) : (E.withY y).T = E.T := rfl
theorem withY_M (E : Ev) (y : Yd) : (E.withY y).M = E.M := rfl
theorem withY_Q (E : Ev) (y : Yd) : (E.withY y).Q = E.Q := rfl
theorem withY_Y (E : Ev) (y : Yd) : (E.withY y).Y = some y := rfl

def intCells (as : List Int) : Array Value := (as.map (Value.int .i64)).toArray

structure EvOk (E : Ev) : Prop where
  T : TOk E.P E.T
  M : ∀ t name f, E.M t name = some f → ∀ v w, (method (E.P.types.size + Made.depth) t v name).run E.P w = .ok (f, v) w
  Q : ∀ t n, E.Q t = some n → ∀ (w : World) (op : BinOp) (x y : Operand) (as bs : List Int), as.length = n → bs.length = n →
    (eqGuard op t x y (.agg (intCells as)) (.agg (intCells bs))).run E.P w = .ok () w ∧
    (binOp .eql t (.agg (intCells as)) (.agg (intCells bs))).run E.P w = .ok (.bool (as == bs)) w ∧
    (binOp .neq t (.agg (intCells as)) (.agg (intCells bs))).run E.P w = .ok (.bool (!(as == bs))) w
  mix : E.P.follows .mixedOrders = true

theorem EvOk.inR {E : Ev} (h : EvOk E) (l : Nat) : EvOk (E.inR l) := ⟨h.T, h.M, h.Q, h.mix⟩
theorem EvOk.withY {E : Ev} (h : EvOk E) (y : Yd) : EvOk (E.withY y) := ⟨h.T, h.M, h.Q, h.mix⟩

/-! ### numbers -/
def bopI (op : BinOp) (k : IntKind) (a b : Int) (K : AV → Prop) : Prop :=
  match op with
  | .add => K (.v (.int k (k.wrap (a + b))))
  | .sub => K (.v (.int k (k.wrap (a - b))))
  | .mul => K (.v (.int k (k.wrap (a * b))))
  | .quo => b ≠ 0 ∧ K (.v (.int k (k.wrap (a.tdiv b))))
  | .rem => b ≠ 0 ∧ K (.v (.int k (a.tmod b)))
  | .eql => K (.v (.bool (a == b)))
  | .neq => K (.v (.bool (a != b)))
  | .lss => K (.v (.bool (decide (a < b))))
  | .leq => K (.v (.bool (decide (a ≤ b))))
  | .gtr => K (.v (.bool (decide (b < a))))
  | .geq => K (.v (.bool (decide (b ≤ a))))
  | _ => False

def bopS (op : BinOp) (a b : ByteArray) (K : AV → Prop) : Prop :=
  match op with
  | .add => a.size + b.size ≤ 9223372036854775807 ∧ K (.v (.string (a ++ b)))
  | .eql => K (.v (.bool (a.toList == b.toList)))
  | .neq => K (.v (.bool (!(a.toList == b.toList))))
  | .lss => K (.v (.bool (Op.bytesLess a.toList b.toList)))
  | .leq => K (.v (.bool (Op.bytesLess a.toList b.toList || a.toList == b.toList)))
  | .gtr => K (.v (.bool (!(Op.bytesLess a.toList b.toList || a.toList == b.toList))))
  | .geq => K (.v (.bool (!Op.bytesLess a.toList b.toList)))
  | _ => False

def toInts? : List AV → Option (List Int)
  | [] => some []
  | a :: l => match a with
    | .v (.int .i64 n) => match toInts? l with
      | some ns => some (n :: ns)
      | none => none
    | _ => none

/-- Whether a pointer is nil, where that is known. -/
def isNilP (a : AV) : Option Bool :=
  match a with
  | .v (.pointer none) => some true
  | .lp _ _ => some false
  | .pt _ _ => some false
  | _ => none

theorem isNilP_ok {a : AV} {b : Bool} (h : isNilP a = some b) {β : Bt} {O : Nat → Prop} {w : World} {u : Value} (hr : R β O w a u) : ∃ q, u = .pointer q ∧ q.isNone = b := by
  unfold isNilP at h
  split at h
  · cases h; exact ⟨none, hr.v_inv, rfl⟩
  · cases h; obtain ⟨b, st, _, rfl⟩ := hr.lp_inv; exact ⟨_, rfl, rfl⟩
  · cases h; obtain ⟨b, off, _, _, rfl, _⟩ := hr.pt_inv; exact ⟨_, rfl, rfl⟩
  · cases h

def bop (E : Ev) (op : BinOp) (t : TypeId) (x y : AV) (K : AV → Prop) : Prop :=
  match x, y with
  | .v (.int k a), .v (.int k' b) => k = k' ∧ bopI op k a b K
  | .v (.string a), .v (.string b) => bopS op a b K
  | .v (.bool a), .v (.bool b) => match E.T t with
    | some ti => match ti.kind, op with
      | .bool, .eql => K (.v (.bool (a == b)))
      | .bool, .neq => K (.v (.bool (a != b)))
      | _, _ => False
    | none => False
  | .ag cs, .ag ds => match E.Q t, toInts? cs, toInts? ds with
    | some n, some as, some bs => as.length = n ∧ bs.length = n ∧ match op with
      | .eql => K (.v (.bool (as == bs)))
      | .neq => K (.v (.bool (!(as == bs))))
      | _ => False
    | _, _, _ => False
  | x, .v (.pointer none) => match isNilP x, E.T t with
    | some b, some ti => match ti.kind, op with
      | .pointer _, .eql => K (.v (.bool b))
      | .pointer _, .neq => K (.v (.bool (!b)))
      | _, _ => False
    | _, _ => False
  | _, _ => False

theorem toInts_some : ∀ {cs : List AV} {as : List Int}, toInts? cs = some as → cs = as.map (fun n => AV.v (.int .i64 n))
  | [], as, h => by simp [toInts?] at h; subst h; rfl
  | a :: l, as, h => by
    unfold toInts? at h
    split at h
    · split at h
      · rename_i ns hns
        cases h
        rw [toInts_some hns]; rfl
      · cases h
    · cases h

section
variable {E : Ev} {o : Oper} {ge : Operand → AV} {H : Hp} {nx : Nat} {K : AV → Prop}

theorem run_guard_int (P : Program) (w : World) (op : BinOp) (t : TypeId) (x y : Operand) (k k' : IntKind) (a b : Int) : (eqGuard op t x y (.int k a) (.int k' b)).run P w = .ok () w := by
  cases op <;> simp [eqGuard]
theorem run_guard_string (P : Program) (w : World) (op : BinOp) (t : TypeId) (x y : Operand) (a b : ByteArray) : (eqGuard op t x y (.string a) (.string b)).run P w = .ok () w := by
  cases op <;> simp [eqGuard]
theorem run_guard_bool (P : Program) (w : World) (op : BinOp) (t : TypeId) (x y : Operand) (a b : Bool) : (eqGuard op t x y (.bool a) (.bool b)).run P w = .ok () w := by
  cases op <;> simp [eqGuard]

/-- What is needed: one value in the same world. -/
def SameV (E : Ev) (o : Oper) (ge : Operand → AV) (H : Hp) (nx : Nat) (r : AV) : Prop :=
  ∀ (B0 : Nat → Prop) (O0 : Nat → Prop) (β : Bt) (O : Nat → Prop) (w : World) (ev : Operand → Value), HC B0 O0 β O H nx w → Bk B0 w →
    (∀ x, x ∈ o.op.operands → R β O w (ge x) (ev x)) → ∃ u, (execOp ev o).run E.P w = .ok (.value u) w ∧ R β O w r u

theorem SameV.ok {r : AV} (h : SameV E o ge H nx r) : StillOk E.P o ge H nx r := StillOk.pure h

theorem bop_ok {op : BinOp} {t t' : TypeId} {x y : Operand} (hE : EvOk E) (ho : o.op = .binOp op t x y t') (h : bop E op t (ge x) (ge y) K) : ∃ r, StillOk E.P o ge H nx r ∧ K r := by
  have key : ∀ (a b : Value) (r : AV) (v : Value), ge x = .v a → ge y = .v b → r = .v v → (∀ w, (do eqGuard op t x y a b; binOp op t a b : Sem Value).run E.P w = .ok v w) → StillOk E.P o ge H nx r := by
    intro a b r v hx hy hr hrun
    refine SameV.ok fun B0 O0 β O w ev hc hB hop => ?_
    have h1 : ev x = a := (hx ▸ hop x (by simp [ho, Op.operands])).v_inv
    have h2 : ev y = b := (hy ▸ hop y (by simp [ho, Op.operands])).v_inv
    refine ⟨v, ?_, hr ▸ R.vv v⟩
    have := hrun w
    simp only [execOp, ho, h1, h2]
    simp only [Sem.run_bind] at this ⊢
    simp [this]
  unfold bop at h
  split at h
  · rename_i k a k' b hx hy
    obtain ⟨rfl, h⟩ := h
    have hg := fun w => run_guard_int E.P w op t x y k k a b
    cases op <;> simp only [bopI] at h
    case add => exact ⟨_, key _ _ _ _ hx hy rfl (fun w => by simp [hg, binOp, Op.intArith]), h⟩
    case sub => exact ⟨_, key _ _ _ _ hx hy rfl (fun w => by simp [hg, binOp, Op.intArith]), h⟩
    case mul => exact ⟨_, key _ _ _ _ hx hy rfl (fun w => by simp [hg, binOp, Op.intArith]), h⟩
    case quo => exact ⟨_, key _ _ _ _ hx hy rfl (fun w => by simp [hg, binOp, Op.intDiv, h.1]), h.2⟩
    case rem => exact ⟨_, key _ _ _ _ hx hy rfl (fun w => by simp [hg, binOp, Op.intDiv, h.1]), h.2⟩
    case eql => exact ⟨_, key _ _ _ _ hx hy rfl (fun w => by simp [hg, binOp, Op.intCmp]), h⟩
    case neq => exact ⟨_, key _ _ _ _ hx hy rfl (fun w => by simp [hg, binOp, Op.intCmp]), h⟩
    case lss => exact ⟨_, key _ _ _ _ hx hy rfl (fun w => by simp [hg, binOp, Op.intCmp]), h⟩
    case leq => exact ⟨_, key _ _ _ _ hx hy rfl (fun w => by simp [hg, binOp, Op.intCmp]), h⟩
    case gtr => exact ⟨_, key _ _ _ _ hx hy rfl (fun w => by simp [hg, binOp, Op.intCmp]), h⟩
    case geq => exact ⟨_, key _ _ _ _ hx hy rfl (fun w => by simp [hg, binOp, Op.intCmp]), h⟩
  · rename_i a b hx hy
    have hg := fun w => run_guard_string E.P w op t x y a b
    cases op <;> simp only [bopS] at h
    case add =>
      have hle : ¬ (((a.size + b.size : Nat) : Int) > IntKind.i64.max) := by simp [IntKind.max, IntKind.signed, IntKind.bits]; omega
      exact ⟨_, key _ _ _ _ hx hy rfl (fun w => by simp only [Sem.run_bind, hg, Result.andThen_ok, binOp, Op.stringOp, if_neg hle, Sem.run_pure]), h.2⟩
    case eql => exact ⟨_, key _ _ _ _ hx hy rfl (fun w => by simp [hg, binOp, Op.stringOp]), h⟩
    case neq => exact ⟨_, key _ _ _ _ hx hy rfl (fun w => by simp [hg, binOp, Op.stringOp]), h⟩
    case lss => exact ⟨_, key _ _ _ _ hx hy rfl (fun w => by simp [hg, binOp, Op.stringOp]), h⟩
    case leq => exact ⟨_, key _ _ _ _ hx hy rfl (fun w => by simp [hg, binOp, Op.stringOp]), h⟩
    case gtr => exact ⟨_, key _ _ _ _ hx hy rfl (fun w => by simp [hg, binOp, Op.stringOp]), h⟩
    case geq => exact ⟨_, key _ _ _ _ hx hy rfl (fun w => by simp [hg, binOp, Op.stringOp]), h⟩
  · rename_i a b hx hy
    have hg := fun w => run_guard_bool E.P w op t x y a b
    split at h
    · rename_i ti ht
      split at h
      · rename_i hk
        have hu := fun w => run_und_bool hE.T ht hk w
        exact ⟨_, key _ _ _ _ hx hy rfl (fun w => by
          rw [Sem.run_bind, hg, Result.andThen_ok]
          show ((do pure (Value.bool (← Op.equalIn 10000 t (.bool a) (.bool b))) : Sem Value).run E.P w) = _
          rw [Sem.run_bind, Op.equalIn, Sem.run_bind, hu]
          simp), h⟩
      · rename_i hk
        have hu := fun w => run_und_bool hE.T ht hk w
        exact ⟨_, key _ _ _ _ hx hy rfl (fun w => by
          rw [Sem.run_bind, hg, Result.andThen_ok]
          show ((do pure (Value.bool (!(← Op.equalIn 10000 t (.bool a) (.bool b)))) : Sem Value).run E.P w) = _
          rw [Sem.run_bind, Op.equalIn, Sem.run_bind, hu]
          simp [bne]), h⟩
      · exact h.elim
    · exact h.elim
  · rename_i cs ds hx hy
    split at h
    · rename_i n as bs hq hc hd
      obtain ⟨h1, h2, h⟩ := h
      have e1 := toInts_some hc
      have e2 := toInts_some hd
      have cells : ∀ (l : List Int) {β : Bt} {O : Nat → Prop} {w : World} {u : Value}, R β O w (.ag (l.map (fun n => AV.v (.int .i64 n)))) u → u = .agg (intCells l) := by
        intro l β O w u hr
        obtain ⟨us, rfl, hs, hu⟩ := hr.ag_inv
        congr 1
        apply Array.ext_getElem?
        intro i
        rcases Nat.lt_or_ge i l.length with hi | hi
        · obtain ⟨y, h1, h2⟩ := hu i (AV.v (.int .i64 l[i])) (by simp [hi])
          rw [h1, h2.v_inv]
          simp [intCells, hi]
        · rw [Array.getElem?_eq_none (by simp at hs; omega), Array.getElem?_eq_none (by simp [intCells]; omega)]
      have go : ∀ (v : Value), (∀ w, (do eqGuard op t x y (.agg (intCells as)) (.agg (intCells bs)); binOp op t (.agg (intCells as)) (.agg (intCells bs)) : Sem Value).run E.P w = .ok v w) → StillOk E.P o ge H nx (.v v) := by
        intro v hrun
        refine SameV.ok fun B0 O0 β O w ev hc hB hop => ?_
        have g1 : ev x = .agg (intCells as) := cells as (β := β) (O := O) (w := w) (by rw [← e1, ← hx]; exact hop x (by simp [ho, Op.operands]))
        have g2 : ev y = .agg (intCells bs) := cells bs (β := β) (O := O) (w := w) (by rw [← e2, ← hy]; exact hop y (by simp [ho, Op.operands]))
        refine ⟨v, ?_, R.vv v⟩
        have := hrun w
        simp only [execOp, ho, g1, g2]
        simp only [Sem.run_bind] at this ⊢
        simp [this]
      have q := fun w => hE.Q t n hq w op x y as bs h1 h2
      split at h
      · exact ⟨_, go _ (fun w => by simp only [Sem.run_bind, (q w).1, Result.andThen_ok, (q w).2.1]), h⟩
      · exact ⟨_, go _ (fun w => by simp only [Sem.run_bind, (q w).1, Result.andThen_ok, (q w).2.2]), h⟩
      · exact h.elim
    · exact h.elim
  · rename_i hy
    split at h
    · rename_i b ti hb ht
      have go : ∀ (v : Value), (∀ (q : Option Addr) (w : World), q.isNone = b → (do eqGuard op t x y (.pointer q) (.pointer none); binOp op t (.pointer q) (.pointer none) : Sem Value).run E.P w = .ok v w) → StillOk E.P o ge H nx (.v v) := by
        intro v hrun
        refine SameV.ok fun B0 O0 β O w ev hc hB hop => ?_
        obtain ⟨q, g1, g2⟩ := isNilP_ok hb (hop x (by simp [ho, Op.operands]))
        have g3 : ev y = .pointer none := (hy ▸ hop y (by simp [ho, Op.operands])).v_inv
        refine ⟨v, ?_, R.vv v⟩
        have := hrun q w g2
        simp only [execOp, ho, g1, g3]
        simp only [Sem.run_bind] at this ⊢
        simp [this]
      split at h
      · rename_i e hk
        have hu := fun w => run_und_ptr hE.T ht hk w
        refine ⟨_, go _ (fun q w hq => ?_), h⟩
        have hg : (eqGuard .eql t x y (.pointer q) (.pointer none)).run E.P w = .ok () w := by cases q <;> simp [eqGuard]
        rw [Sem.run_bind, hg, Result.andThen_ok]
        show ((do pure (Value.bool (← Op.equalIn 10000 t (.pointer q) (.pointer none))) : Sem Value).run E.P w) = _
        rw [Sem.run_bind, Op.equalIn, Sem.run_bind, hu]
        cases q <;> simp at hq ⊢ <;> exact hq
      · rename_i e hk
        have hu := fun w => run_und_ptr hE.T ht hk w
        refine ⟨_, go _ (fun q w hq => ?_), h⟩
        have hg : (eqGuard .neq t x y (.pointer q) (.pointer none)).run E.P w = .ok () w := by cases q <;> simp [eqGuard]
        rw [Sem.run_bind, hg, Result.andThen_ok]
        show ((do pure (Value.bool (!(← Op.equalIn 10000 t (.pointer q) (.pointer none)))) : Sem Value).run E.P w) = _
        rw [Sem.run_bind, Op.equalIn, Sem.run_bind, hu]
        cases q <;> simp at hq ⊢ <;> exact hq
      · exact h.elim
    · exact h.elim
  · exact h.elim

def uop (op : UnOp) (x : AV) (K : AV → Prop) : Prop :=
  match op, x with
  | .neg, .v (.int k n) => K (.v (.int k (k.wrap (0 - n))))
  | .not, .v (.bool b) => K (.v (.bool (!b)))
  | _, _ => False

theorem uop_ok {op : UnOp} {t : TypeId} {x : Operand} (ho : o.op = .unOp op t x) (h : uop op (ge x) K) : ∃ r, StillOk E.P o ge H nx r ∧ K r := by
  unfold uop at h
  split at h
  · rename_i k n hx
    refine ⟨_, SameV.ok fun B0 O0 β O w ev hc hB hop => ?_, h⟩
    have h1 := (hx ▸ hop x (by simp [ho, Op.operands])).v_inv
    exact ⟨_, by simp [execOp, ho, h1, Op.unary, Op.intArith], R.vv _⟩
  · rename_i b hx
    refine ⟨_, SameV.ok fun B0 O0 β O w ev hc hB hop => ?_, h⟩
    have h1 := (hx ▸ hop x (by simp [ho, Op.operands])).v_inv
    exact ⟨_, by simp [execOp, ho, h1, Op.unary], R.vv _⟩
  · exact h.elim

theorem move_ok {x : Operand} (ho : o.op = .move x ∨ o.op = .assign x) (h : K (ge x)) : ∃ r, StillOk E.P o ge H nx r ∧ K r := by
  refine ⟨_, SameV.ok fun B0 O0 β O w ev hc hB hop => ?_, h⟩
  rcases ho with ho | ho
  · exact ⟨ev x, by simp [execOp, ho], hop x (by simp [ho, Op.operands])⟩
  · exact ⟨ev x, by simp [execOp, ho], hop x (by simp [ho, Op.operands])⟩

/-- The choice, where a value is no Bool: the walk stands here till it is told. -/
def pkB (c : Bool) (a b : AV) (K : AV → Prop) : Prop := bsplit c fun c => K (bif c then a else b)
theorem pkB_true (a b : AV) (K : AV → Prop) : pkB true a b K = K a := by simp [pkB, bsplit]
theorem pkB_false (a b : AV) (K : AV → Prop) : pkB false a b K = K b := by simp [pkB, bsplit]
theorem pkB_intro {c : Bool} {a b : AV} {K : AV → Prop} (h1 : c = true → K a) (h2 : c = false → K b) : pkB c a b K := ⟨h1, h2⟩

def pk (c a b : AV) (K : AV → Prop) : Prop :=
  match c with
  | .v (.bool c) =>
    match a, b with
    | .v (.bool x), .v (.bool y) => K (.v (.bool (bif c then x else y)))
    | a, b => pkB c a b K
  | _ => False

theorem pk_ok {c a b : Operand} (ho : o.op = .pick c a b) (h : pk (ge c) (ge a) (ge b) K) : ∃ r, StillOk E.P o ge H nx r ∧ K r := by
  unfold pk at h
  split at h
  · rename_i cv hc
    split at h
    · rename_i x y ha hb
      refine ⟨_, SameV.ok fun B0 O0 β O w ev hh hB hop => ?_, h⟩
      have h1 := (hc ▸ hop c (by simp [ho, Op.operands])).v_inv
      have h2 := (ha ▸ hop a (by simp [ho, Op.operands])).v_inv
      have h3 := (hb ▸ hop b (by simp [ho, Op.operands])).v_inv
      refine ⟨.bool (bif cv then x else y), ?_, R.vv _⟩
      cases cv <;> simp [execOp, ho, h1, h2, h3, asBool]
    · refine ⟨_, SameV.ok fun B0 O0 β O w ev hh hB hop => ?_, bsplit_of h⟩
      have h1 := (hc ▸ hop c (by simp [ho, Op.operands])).v_inv
      refine ⟨bif cv then ev a else ev b, ?_, ?_⟩
      · cases cv <;> simp [execOp, ho, h1, asBool]
      · cases cv
        · exact hop b (by simp [ho, Op.operands])
        · exact hop a (by simp [ho, Op.operands])
  · exact h.elim

def conv (T : Tab) (src dst : TypeId) (x : AV) (K : AV → Prop) : Prop :=
  match T src, T dst with
  | some si, some di =>
    match di.kind, x with
    | .int k, .v (.int _ n) => K (.v (.int k (k.wrap n)))
    | .string, .v (.string s) => K (.v (.string s))
    | _, _ => False
  | _, _ => False

theorem conv_ok (hE : EvOk E) {src dst : TypeId} {x : Operand} (ho : o.op = .convert src dst x) (h : conv E.T src dst (ge x) K) : ∃ r, StillOk E.P o ge H nx r ∧ K r := by
  unfold conv at h
  split at h
  · rename_i si di hs hd
    split at h
    · rename_i k k' n hk hx
      refine ⟨_, SameV.ok fun B0 O0 β O w ev hh hB hop => ?_, h⟩
      have h1 := (hx ▸ hop x (by simp [ho, Op.operands])).v_inv
      obtain ⟨sd, hsd, _⟩ := run_und hE.T hs w
      have hdd := run_und_int hE.T hd hk w
      refine ⟨.int k (k.wrap n), ?_, R.vv _⟩
      simp only [execOp, ho, h1, convert, Sem.run_bind, hsd, Result.andThen_ok, hdd]
      cases sd <;> simp [Conv.intToInt]
    · rename_i s hk hx
      refine ⟨_, SameV.ok fun B0 O0 β O w ev hh hB hop => ?_, h⟩
      have h1 := (hx ▸ hop x (by simp [ho, Op.operands])).v_inv
      obtain ⟨sd, hsd, _⟩ := run_und hE.T hs w
      have hdd := run_und_string hE.T hd hk w
      refine ⟨.string s, ?_, R.vv _⟩
      simp only [execOp, ho, h1, convert, Sem.run_bind, hsd, Result.andThen_ok, hdd]
      cases sd <;> simp
    · exact h.elim
  · exact h.elim

/-! ### reading memory -/
def cellsK (ti : TI) (cs : List AV) (i : Nat) (K : AV → Prop) : Prop :=
  bif ti.agg then i + ti.size ≤ cs.length ∧ K (.ag ((cs.drop i).take ti.size))
  else match cs[i]? with
    | some c => K c
    | none => False

def loadA (T : Tab) (H : Hp) (t : TypeId) (x : AV) (K : AV → Prop) : Prop :=
  match T t with
  | some ti =>
    match x with
    | .pt cs i => cellsK ti cs i K
    | .lp k off => match H k with | some c => cellsK ti c off K | none => False
    | _ => False
  | none => False

/-- A load at an address at which cells are known. -/
theorem load_cells (hE : EvOk E) {t : TypeId} {ti : TI} (ht : E.T t = some ti) {β : Bt} {O : Nat → Prop} {w : World} {b off i : Nat} {cs : List AV}
    (hcell : ∀ (j : Nat) (c : AV), cs[j]? = some c → ∃ x : Value, w.cell? ⟨b, off + j, none⟩ = some x ∧ R β O w c x) (h : cellsK ti cs i K) :
    ∃ r, K r ∧ ∃ u, (Instr.loadAt t (.pointer (some ⟨b, off + i, none⟩))).run E.P w = .ok u w ∧ R β O w r u := by
  unfold cellsK at h
  have hag := run_agg hE.T ht w
  have hsz := run_size hE.T ht w
  cases ha : ti.agg with
  | true =>
    rw [ha, cond_true] at h
    refine ⟨_, h.2, ?_⟩
    obtain ⟨hlen, _⟩ := h
    have hfam : ∀ j : Nat, ∃ u : Value, ∀ c : AV, ((cs.drop i).take ti.size)[j]? = some c → w.cell? ⟨b, off + i + j, none⟩ = some u ∧ R β O w c u := by
      intro j
      cases hj : ((cs.drop i).take ti.size)[j]? with
      | none => exact ⟨undef, fun c hc => by cases hc⟩
      | some c =>
        have hj' : cs[i + j]? = some c := by
          rw [List.getElem?_take] at hj
          split at hj
          · rwa [List.getElem?_drop] at hj
          · cases hj
        obtain ⟨u, h1, h2⟩ := hcell _ _ hj'
        exact ⟨u, fun c' hc => by cases hc; exact ⟨by rw [Nat.add_assoc]; exact h1, h2⟩⟩
    let us : List Value := (List.range ti.size).map fun j => (hfam j).choose
    have hus : us.length = ti.size := by simp [us]
    have hget : ∀ (j : Nat), j < ti.size → us[j]? = some ((hfam j).choose) := by
      intro j hj; simp [us, hj]
    have hin : ∀ j, j < ti.size → ∃ c, ((cs.drop i).take ti.size)[j]? = some c := by
      intro j hj
      have : j < ((cs.drop i).take ti.size).length := by simp; omega
      exact ⟨_, List.getElem?_eq_getElem this⟩
    have hload : (loadCells ⟨b, off + i, none⟩ ti.size).run E.P w = .ok us.toArray w := by
      have := run_loadCells_list (P := E.P) w ⟨b, off + i, none⟩ us (fun j v hv => by
        have hj : j < ti.size := by
          have := (List.getElem?_eq_some_iff.1 hv).1
          omega
        obtain ⟨c, hc⟩ := hin j hj
        rw [hget j hj] at hv
        cases hv
        rw [addr_add]
        exact ((hfam j).choose_spec c hc).1)
      rwa [hus] at this
    refine ⟨.agg us.toArray, ?_, R.mk_ag (by simp [hus]; omega) fun j c hc => ?_⟩
    · simp only [Instr.loadAt, Instr.sureAddr, loadVar, Sem.run_bind, Sem.run_pure, Result.andThen_ok, hag, ha, if_true, hsz, hload]
    · have hj : j < ti.size := by
        have := (List.getElem?_eq_some_iff.1 hc).1
        simp at this; omega
      exact ⟨(hfam j).choose, by simpa using hget j hj, ((hfam j).choose_spec c hc).2⟩
  | false =>
    rw [ha, cond_false] at h
    split at h
    · rename_i c hc
      obtain ⟨u, h1, h2⟩ := hcell _ _ hc
      refine ⟨_, h, u, ?_, h2⟩
      simp only [Instr.loadAt, Instr.sureAddr, loadVar, Sem.run_bind, Sem.run_pure, Result.andThen_ok, hag, ha]
      simp [h1]
    · exact h.elim

/-- The value that is read does not hang on the world: so it can be named ahead. -/
theorem cellsK_res {ti : TI} {cs : List AV} {i : Nat} (h : cellsK ti cs i K) : ∃ r, K r ∧ cellsK ti cs i (fun a => a = r) := by
  unfold cellsK at *
  cases ha : ti.agg with
  | true => rw [ha, cond_true] at h; exact ⟨_, h.2, by rw [cond_true]; exact ⟨h.1, rfl⟩⟩
  | false =>
    rw [ha, cond_false] at h
    split at h
    · exact ⟨_, h, by simp⟩
    · exact h.elim

theorem loadA_ok (hE : EvOk E) {t : TypeId} {x : Operand} (ho : o.op = .load t x) (h : loadA E.T H t (ge x) K) : ∃ r, StillOk E.P o ge H nx r ∧ K r := by
  unfold loadA at h
  split at h
  · rename_i ti ht
    split at h
    · rename_i cs i hx
      obtain ⟨r, hr, h⟩ := cellsK_res h
      refine ⟨r, SameV.ok fun B0 O0 β O w ev hh hB hop => ?_, hr⟩
      obtain ⟨b, off, _, _, hu, hcell⟩ := (hx ▸ hop x (by simp [ho, Op.operands])).pt_inv
      obtain ⟨_, rfl, u, h1, h2⟩ := load_cells hE ht (β := β) (O := O) (w := w) (b := b) (off := off) (fun j c hc => let ⟨y, a, p⟩ := hcell j c hc; ⟨y, a, .pl _ _ p⟩) h
      exact ⟨u, by simp only [execOp, ho, hu, Sem.run_bind, h1, Result.andThen_ok, Sem.run_pure], h2⟩
    · rename_i k off hx
      split at h
      · rename_i c hk
        obtain ⟨r, hr, h⟩ := cellsK_res h
        refine ⟨r, SameV.ok fun B0 O0 β O w ev hh hB hop => ?_, hr⟩
        obtain ⟨b, st, hb, hu⟩ := (hx ▸ hop x (by simp [ho, Op.operands])).lp_inv
        rcases hh.row k c hk with ⟨hn, _⟩ | ⟨b', st', hb', _, _, hrow⟩
        · rw [hb] at hn; cases hn
        · rw [hb] at hb'
          obtain ⟨rfl, rfl⟩ := by simpa using hb'
          obtain ⟨_, rfl, u, h1, h2⟩ := load_cells hE ht (β := β) (O := O) (w := w) (b := b) (off := st) (fun j c hc => hrow.cell hc) h
          exact ⟨u, by simp only [execOp, ho, hu, Sem.run_bind, h1, Result.andThen_ok, Sem.run_pure], h2⟩
      · exact h.elim
    · exact h.elim
  · exact h.elim

/-- The address of a field. -/
def fieldA (T : Tab) (s : TypeId) (x : AV) (f : Nat) (K : AV → Prop) : Prop :=
  match T s with
  | some si =>
    match si.kind with
    | .struct fs =>
      match fs[f]? with
      | some (off, ft) =>
        match T ft with
        | some fi =>
          fi.size ≠ 0 ∧ match x with
          | .pt cs i => K (.pt cs (i + off))
          | .lp k o => K (.lp k (o + off))
          | _ => False
        | none => False
      | none => False
    | _ => False
  | none => False

theorem fieldA_ok (hE : EvOk E) {s : TypeId} {x : Operand} {f : Nat} (ho : o.op = .fieldAddr s x f) (h : fieldA E.T s (ge x) f K) : ∃ r, StillOk E.P o ge H nx r ∧ K r := by
  unfold fieldA at h
  split at h
  · rename_i si hs
    split at h
    · rename_i fs hk
      split at h
      · rename_i off ft hf
        split at h
        · rename_i fi hft
          obtain ⟨hz, h⟩ := h
          have run : ∀ (w : World) (a : Addr), (Instr.fieldAt s (.pointer (some a)) f).run E.P w = .ok (.pointer (some (a.add off))) w := by
            intro w a
            obtain ⟨gs, h1, h2⟩ := run_und_struct hE.T hs hk w
            have hsz := run_size hE.T hft w
            have hg : ∃ g : Field, gs[f]? = some g ∧ g.offset = off ∧ g.type = ft := by
              rw [h2] at hf
              simp only [List.getElem?_map, Array.getElem?_toList] at hf
              cases hq : gs[f]? with
              | none => simp [hq] at hf
              | some g => simp [hq] at hf; exact ⟨g, rfl, hf.1, hf.2⟩
            obtain ⟨g, hg1, hg2, hg3⟩ := hg
            simp [Instr.fieldAt, h1, hg1, Instr.sureAddr, fieldPlace, hg3, hsz, hz, hg2]
          split at h
          · rename_i cs i hx
            refine ⟨_, SameV.ok fun B0 O0 β O w ev hh hB hop => ?_, h⟩
            obtain ⟨b, of, hO, hb, hu, hcell⟩ := (hx ▸ hop x (by simp [ho, Op.operands])).pt_inv
            exact ⟨.pointer (some ⟨b, of + (i + off), none⟩), by simp only [execOp, ho, hu, Sem.run_bind, run, Result.andThen_ok, Sem.run_pure, addr_add, Nat.add_assoc], .pl _ _ (Rp.mk_pt hO hb hcell)⟩
          · rename_i k of hx
            refine ⟨_, SameV.ok fun B0 O0 β O w ev hh hB hop => ?_, h⟩
            obtain ⟨b, st, hb, hu⟩ := (hx ▸ hop x (by simp [ho, Op.operands])).lp_inv
            exact ⟨.pointer (some ⟨b, st + (of + off), none⟩), by simp only [execOp, ho, hu, Sem.run_bind, run, Result.andThen_ok, Sem.run_pure, addr_add, Nat.add_assoc], .lp k (of + off) b st hb⟩
          · exact h.elim
        · exact h.elim
      · exact h.elim
    · exact h.elim
  · exact h.elim

end
end Go.Ab

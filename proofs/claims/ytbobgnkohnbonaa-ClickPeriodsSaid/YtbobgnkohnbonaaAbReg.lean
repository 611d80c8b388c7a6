/- The abstract machine, part 7: frames; a region of still operations in whatever order; what follows one behind the other. -/
import Derived.Test.YtbobgnkohnbonaaAbSop4
set_option linter.unusedVariables false
set_option linter.unusedSimpArgs false
namespace Go.Ab
open Go.RowKit

/-! ### frames -/
def lk : List (Nat × AV) → Nat → Option AV
  | [], _ => none
  | (t, a) :: l, s => bif t == s then some a else lk l s

def geF (f : Nat → Option AV) : Operand → AV
  | .tmp t => (f t).getD .any
  | .const c => ofV c
  | .global g => .v (.pointer (some ⟨g, 0, none⟩))
  | .func f => .fn (.func f) [] []

def updF (f : Nat → Option AV) (d : Option Nat) (r : AV) : Nat → Option AV :=
  match d with
  | none => f
  | some d => fun t => bif d == t then some r else f t

/-- The mark of a range over a function among the deferred calls. -/
def mark1 (D : Nat) : Deferred := { target := .collected D, args := #[] }
structure DefOk (mk : Prop) (B O : Nat → Prop) (ds : List Deferred) (w : World) : Prop where
  may : ds ≠ [] → mk
  ds : ∃ Ds : List Nat, ds = Ds.map mark1 ∧ Ds.Nodup ∧ ∀ D ∈ Ds, ¬ O D ∧ ¬ B D ∧ w.heap[D]? = some (.deferred (some []))

theorem DefOk.nil (mk : Prop) (B O : Nat → Prop) (w : World) : DefOk mk B O [] w := ⟨fun h => absurd rfl h, [], rfl, List.nodup_nil, fun D h => by simp at h⟩

theorem lt_of_get {w : World} {D : Nat} {o : Obj} (h : w.heap[D]? = some o) : D < w.heap.size := (Array.getElem?_eq_some_iff.1 h).1

theorem DefOk.tr {mk : Prop} {B O O' : Nat → Prop} {ds : List Deferred} {w w' : World} (h : DefOk mk B O ds w) (t : Tr O w O' w') : DefOk mk B O' ds w' := by
  obtain ⟨Ds, h1, h2, h3⟩ := h.ds
  refine ⟨h.may, Ds, h1, h2, fun D hD => ?_⟩
  obtain ⟨a, b, c⟩ := h3 D hD
  obtain ⟨k1, k2⟩ := t.keep D (lt_of_get c) a
  exact ⟨k2, b, k1.trans c⟩

/-- What stays fixed while a function's text is walked: the blocks that it must not touch; what is to be kept of them; the rows of whoever called (the first p numbers), and the world then. -/
structure Gh where
  B0 : Nat → Prop
  O0 : Nat → Prop
  inv : (Nat → Prop) → World → Prop
  mark : Prop
  stab : ∀ (O : Nat → Prop) (w : World) (O' : Nat → Prop) (w' : World), inv O w → Tr O w O' w' → Pr B0 O w O' w' → inv O' w'
  p : Nat
  βp : Bt
  Op : Nat → Prop
  wp : World
  hp : ∀ k, p ≤ k → βp k = none

/-- 'n': how many slots; the numbers of rows that are the caller's; the rounds that were asked for. -/
structure Cf (g : Gh) (β : Bt) (O : Nat → Prop) (f : Nat → Option AV) (H : Hp) (nx : Nat) (n : Nat × Nat × Nat) (a : Act) (w : World) : Prop where
  defers : DefOk g.mark g.B0 O a.defers w
  fr : ∀ t av, f t = some av → ∃ u, a.tmps[t]? = some u ∧ R β O w av u
  sz : n.1 ≤ a.tmps.size
  hc : HC g.B0 g.O0 β O H nx w
  inv : g.inv O w
  b0 : Bk g.B0 w
  pp : g.p ≤ n.2.1
  prot : ∀ k q, g.βp k = some q → β k = some q
  tr : Tr g.Op g.wp O w

section
variable {g : Gh} {β : Bt} {O : Nat → Prop} {f : Nat → Option AV} {H : Hp} {nx : Nat} {n : Nat × Nat × Nat} {a : Act} {w : World}

theorem Cf.ge (h : Cf g β O f H nx n a w) (x : Operand) : R β O w (geF f x) (a.eval x) := by
  cases x with
  | tmp t =>
    simp only [geF, Act.eval]
    cases hf : f t with
    | none => exact .any _
    | some av =>
      obtain ⟨u, h1, h2⟩ := h.fr t av hf
      rw [Array.getD_eq_getD_getElem?, h1]
      exact h2
  | const c => exact R.ofV c
  | global gg => exact R.vv _
  | func fid => exact R.mk_fn (by simp) (by simp) (fun i c hc => by simp at hc) (fun i c hc => by simp at hc)

theorem Cf.gr {w' : World} (hg : Gr w w') (h : Cf g β O f H nx n a w) : Cf g β O f H nx n a w' :=
  ⟨h.defers.tr (Tr.of_gr hg), fun t av ht => let ⟨u, h1, h2⟩ := h.fr t av ht; ⟨u, h1, h2.gr hg⟩, h.sz, h.hc.gr hg, g.stab _ _ _ _ h.inv (Tr.of_gr hg) (Pr.of_gr hg h.b0), h.b0.gr hg.size, h.pp, h.prot, h.tr.trans (Tr.of_gr hg)⟩

def dOk (n : Nat × Nat × Nat) (d : Option Nat) : Prop :=
  match d with
  | none => True
  | some d => d < n.1

theorem Cf.put {d : Option Nat} {r : AV} {u : Value} (hd : dOk n d) (hr : R β O w r u) (h : Cf g β O f H nx n a w) : Cf g β O (updF f d r) H nx n (a.put d u) w := by
  cases d with
  | none => exact h
  | some d =>
    have hd : d < n.1 := hd
    refine ⟨h.defers, fun t av ht => ?_, by simpa [Act.put] using h.sz, h.hc, h.inv, h.b0, h.pp, h.prot, h.tr⟩
    simp only [updF] at ht
    by_cases e : d = t
    · subst e
      simp only [BEq.rfl, cond_true, Option.some.injEq] at ht
      subst ht
      exact ⟨u, by simp only [Act.put]; rw [Array.getElem?_setIfInBounds_self_of_lt (by have := h.sz; omega)], hr⟩
    · have : (d == t) = false := by simpa using e
      rw [this, cond_false] at ht
      obtain ⟨u', h1, h2⟩ := h.fr t av ht
      exact ⟨u', by simp only [Act.put]; rw [Array.getElem?_setIfInBounds_ne e]; exact h1, h2⟩
end

/-! ### guards -/
def wantedA (f : Nat → Option AV) (ops : Array Oper) (o : Oper) : Option Bool :=
  match o.guard with
  | none => some true
  | some (j, want) =>
    match (ops[j]?).bind (·.dst) with
    | some d =>
      match f d with
      | some (.v (.bool b)) => some (b == want)
      | some (.v (.tuple _)) => some false
      | _ => none
    | none => none

theorem wantedA_ok {g : Gh} {β : Bt} {O : Nat → Prop} {f : Nat → Option AV} {H : Hp} {nx : Nat} {n : Nat × Nat × Nat} {a : Act} {w : World} {ops : Array Oper} {o : Oper} {b : Bool} (h : Cf g β O f H nx n a w) (hw : wantedA f ops o = some b) :
    Region.wanted o (yielded ops a.tmps) = b := by
  unfold wantedA at hw
  unfold Region.wanted
  cases ho : o.guard with
  | none => simp [ho] at hw; simpa using hw
  | some p =>
    obtain ⟨j, want⟩ := p
    simp only [ho] at hw ⊢
    unfold yielded
    cases hd : (ops[j]?).bind (·.dst) with
    | none => simp [hd] at hw
    | some d =>
      simp only [hd] at hw
      simp only [Option.bind_some]
      cases hf : f d with
      | none => simp [hf] at hw
      | some av =>
        obtain ⟨u, h1, h2⟩ := h.fr d av hf
        rw [h1]
        cases av <;> simp only [hf, reduceCtorEq] at hw
        rename_i x
        have := h2.v_inv
        subst this
        cases u <;> simp only [reduceCtorEq, Option.some.injEq] at hw
        · subst hw; rename_i b; cases b <;> cases want <;> rfl
        · subst hw; rfl

/-! ### fences: a function's text; a round of a range over a function -/
def Fn (ro : Option Nat) : Fence :=
  match ro with
  | none => Fence.wide
  | some l => Fence.wide.inRound l
theorem Fn_fn (ro : Option Nat) (f : FuncId) : (Fn ro).fn f := by cases ro <;> exact True.intro
theorem Fn_round (ro : Option Nat) : (Fn ro).round = ro := by cases ro <;> rfl
theorem Fn_depth (ro : Option Nat) : (Fn ro).depth = none := by cases ro <;> rfl
theorem callsIn_fn {ro : Option Nat} {n : Nat} {P : Program} {f : FuncId} {args : Array Value} {w : World} {R : Ending → World → Prop} (h : Calls P f args w R) : CallsIn (Fn ro) n P f args w R := by
  have h' : CallsIn Fence.wide n P f args w R := callsIn_wide.2 h
  cases ro with
  | none => exact h'
  | some l => exact h'

/-- What comes of an operation's run. -/
def uponR (P : Program) (o : Oper) (a : Act) (K : Act → World → Prop) : Result Next → Prop
  | .ok (.value v) w' => K (a.put o.dst v) w'
  | .ok .skip w' => K (a.put o.dst undef) w'
  | .ok (.enter f args) w' => Calls P f args w' (fun e w'' => ∃ u, e = .returned u ∧ K (a.put o.dst u) w'')
  | _ => False

theorem wpIn_run {ro : Option Nat} {P : Program} {o : Oper} {a : Act} {w : World} {K : Act → World → Prop} {Q : Exit → Act → World → Prop} (h : uponR P o a K ((execOp a.eval o).run P w)) : o.wpIn (Fn ro) 0 P a w K Q := by
  have hd : ∀ c, o.op ≠ .defer c := by
    intro c hc
    have : execOp a.eval o = (do let d ← resolve a.eval c o.type; pure (.defer d)) := by simp [execOp, hc]
    rw [this, Sem.run_bind] at h
    cases hr : (resolve a.eval c o.type).run P w with
    | ok d w' => rw [hr] at h; simp [uponR] at h
    | halt x w' => rw [hr] at h; simp [uponR, Result.andThen] at h
  refine ⟨fun f _ => Fn_fn ro f, ?_⟩
  rw [Oper.semAt_eq _ _ _ hd]
  generalize (execOp a.eval o).run P w = res at h
  cases res with
  | halt x w' => exact h.elim
  | ok nxt w' =>
    cases nxt <;> simp only [uponR] at h
    case value u => exact h
    case skip => exact h
    case enter f args =>
      refine ⟨fun hh => ?_, callsIn_fn (h.mono fun e w'' he => ?_)⟩
      · rw [Fn_depth] at hh; cases hh
      obtain ⟨u, rfl, hk⟩ := he
      exact hk

/-! ### one still operation -/
def Yl (P : Program) (ops : Array Oper) (H : Hp) (nx : Nat) (o : Oper) (f : Nat → Option AV) (r : AV) : Prop :=
  (wantedA f ops o = some true ∧ StillOk P o (geF f) H nx r) ∨ (wantedA f ops o = some false ∧ r = .v undef)

/-- What comes of one operation of a region. -/
def opAt (ro : Option Nat) (P : Program) (ops : Array Oper) (Q : Exit → Act → World → Prop) (o : Oper) (K : Act → World → Prop) (a : Act) (w : World) : Prop :=
  if Region.wanted o (yielded ops a.tmps) then o.wpIn (Fn ro) 0 P a w K Q else (∀ f, o.about P w a.eval = some f → (Fn ro).fn f) ∧ K (a.put o.dst undef) w

theorem still_wp {ro : Option Nat} {P : Program} {g : Gh} {β : Bt} {O : Nat → Prop} {f : Nat → Option AV} {H : Hp} {nx : Nat} {n : Nat × Nat × Nat} {a : Act} {w : World} {o : Oper} {r : AV} (h : Cf g β O f H nx n a w) (hd : dOk n o.dst)
    (hy : StillOk P o (geF f) H nx r) {K : Act → World → Prop} {Q : Exit → Act → World → Prop} (hK : ∀ a' w', Cf g β O (updF f o.dst r) H nx n a' w' → K a' w') : o.wpIn (Fn ro) 0 P a w K Q := by
  have h1 := hy g.B0 g.O0 β O w a.eval h.hc h.b0 (fun x _ => h.ge x)
  refine wpIn_run ?_
  generalize (execOp a.eval o).run P w = res at h1
  cases res with
  | halt x w' => exact h1.elim
  | ok nxt w' =>
    cases nxt <;> simp only [uponR] at h1 ⊢
    case value u => exact hK _ _ ((h.gr h1.1).put hd h1.2)
    case skip => exact hK _ _ ((h.gr h1.1).put hd h1.2)
    case enter fid args =>
      obtain ⟨rfl, hc⟩ := h1
      refine hc.mono fun e w'' he => ?_
      obtain ⟨u, rfl, hg, hr⟩ := he
      exact ⟨u, rfl, hK _ _ ((h.gr hg).put hd hr)⟩
    all_goals exact h1.elim

theorem Yl.opAt {ro : Option Nat} {P : Program} {ops : Array Oper} {g : Gh} {β : Bt} {O : Nat → Prop} {f : Nat → Option AV} {H : Hp} {nx : Nat} {n : Nat × Nat × Nat} {a : Act} {w : World} {o : Oper} {r : AV} (hy : Yl P ops H nx o f r) (h : Cf g β O f H nx n a w) (hd : dOk n o.dst)
    {K : Act → World → Prop} {Q : Exit → Act → World → Prop} (hK : ∀ a' w', Cf g β O (updF f o.dst r) H nx n a' w' → K a' w') : Ab.opAt ro P ops Q o K a w := by
  unfold Ab.opAt
  rcases hy with ⟨hw, hs⟩ | ⟨hw, rfl⟩
  · rw [wantedA_ok h hw, if_pos rfl]
    exact still_wp h hd hs hK
  · rw [wantedA_ok h hw]
    simp only [Bool.false_eq_true, if_false]
    exact ⟨fun f _ => Fn_fn ro f, hK _ _ (h.put hd (R.vv undef))⟩

/-! ### what does not look at memory at all -/
def floB (o : Oper) : Bool := o.guard.isNone && match o.op with
  | .move _ => true
  | .assign _ => true
  | .binOp op _ _ _ _ => match op with
    | .add => true
    | .sub => true
    | .quo => true
    | .rem => true
    | _ => false
  | _ => false

/-- One value, the same in every world. -/
def Flo (P : Program) (o : Oper) (ge : Operand → AV) (r : AV) : Prop :=
  ∀ (β : Bt) (O : Nat → Prop) (w : World) (ev : Operand → Value), (∀ x, x ∈ o.op.operands → R β O w (ge x) (ev x)) → ∃ u, (∀ w', (execOp ev o).run P w' = .ok (.value u) w') ∧ R β O w r u

theorem floB_guard {o : Oper} (h : floB o = true) : o.guard = none := by
  simp only [floB, Bool.and_eq_true, Option.isNone_iff_eq_none] at h
  exact h.1

theorem floB_about {o : Oper} (h : floB o = true) (P : Program) (w : World) (ev : Operand → Value) : o.about P w ev = none := by
  simp only [floB, Bool.and_eq_true] at h
  have h := h.2
  unfold Oper.about
  cases ho : o.op <;> rw [ho] at h <;> first | rfl | exact (Bool.noConfusion h)

theorem flo_ok {E : Ev} {o : Oper} {ge : Operand → AV} {H : Hp} {nx : Nat} {K : AV → Prop} (hE : EvOk E) (h : sop E o ge H nx K) : ∃ r, StillOk E.P o ge H nx r ∧ (floB o = true → Flo E.P o ge r) ∧ K r := by
  cases hfl : floB o with
  | false => obtain ⟨r, h1, h2⟩ := sop_ok hE h; exact ⟨r, h1, fun h => (by cases h), h2⟩
  | true =>
    have hk := hfl
    simp only [floB, Bool.and_eq_true] at hk
    have hk := hk.2
    have fin : ∀ r, Flo E.P o ge r → K r → ∃ r, StillOk E.P o ge H nx r ∧ (true = true → Flo E.P o ge r) ∧ K r := fun r hr hK =>
      ⟨r, StillOk.pure fun B0 O0 β O w ev hc hB hx => let ⟨u, h1, h2⟩ := hr β O w ev hx; ⟨u, h1 w, h2⟩, fun _ => hr, hK⟩
    cases ho : o.op <;> rw [ho] at hk <;> first | exact (Bool.noConfusion hk) | skip
    case move x =>
      simp only [sop, ho] at h
      exact fin _ (fun β O w ev hx => ⟨ev x, fun w' => by simp [execOp, ho], hx x (by simp [ho, Op.operands])⟩) h
    case assign x =>
      simp only [sop, ho] at h
      exact fin _ (fun β O w ev hx => ⟨ev x, fun w' => by simp [execOp, ho], hx x (by simp [ho, Op.operands])⟩) h
    case binOp op t x y t' =>
      simp only [sop, ho] at h
      have key : ∀ (a b : Value) (v : Value), ge x = .v a → ge y = .v b → (∀ w, (do eqGuard op t x y a b; binOp op t a b : Sem Value).run E.P w = .ok v w) → Flo E.P o ge (.v v) := by
        intro a b v hx hy hrun β O w ev hop
        have h1 : ev x = a := (hx ▸ hop x (by simp [ho, Op.operands])).v_inv
        have h2 : ev y = b := (hy ▸ hop y (by simp [ho, Op.operands])).v_inv
        refine ⟨v, fun w' => ?_, R.vv v⟩
        have := hrun w'
        simp only [execOp, ho, h1, h2]
        simp only [Sem.run_bind] at this ⊢
        simp [this]
      unfold bop at h
      split at h
      · rename_i k a k' b hx hy
        obtain ⟨rfl, h⟩ := h
        have hg := fun w => run_guard_int E.P w op t x y k k a b
        cases op <;> simp only [bopI] at h hk <;> first | exact (Bool.noConfusion hk) | skip
        case add => exact fin _ (key _ _ _ hx hy (fun w => by simp [hg, binOp, Op.intArith])) h
        case sub => exact fin _ (key _ _ _ hx hy (fun w => by simp [hg, binOp, Op.intArith])) h
        case quo => exact fin _ (key _ _ _ hx hy (fun w => by simp [hg, binOp, Op.intDiv, h.1])) h.2
        case rem => exact fin _ (key _ _ _ hx hy (fun w => by simp [hg, binOp, Op.intDiv, h.1])) h.2
      · rename_i a b hx hy
        have hg := fun w => run_guard_string E.P w op t x y a b
        cases op <;> simp only [bopS] at h hk <;> first | exact (Bool.noConfusion hk) | skip
        case add =>
          have hle : ¬ (((a.size + b.size : Nat) : Int) > IntKind.i64.max) := by simp [IntKind.max, IntKind.signed, IntKind.bits]; omega
          exact fin _ (key _ _ _ hx hy (fun w => by simp only [Sem.run_bind, hg, Result.andThen_ok, binOp, Op.stringOp, if_neg hle, Sem.run_pure])) h.2
      · cases op <;> simp only at hk <;> first | exact (Bool.noConfusion hk) | skip
        all_goals
          split at h
          · split at h <;> first | exact h.elim | (rename_i e1 e2; cases e2) | skip
          · exact h.elim
      · cases op <;> simp only at hk <;> first | exact (Bool.noConfusion hk) | skip
        all_goals
          split at h
          · exact h.2.2.elim
          · exact h.elim
      · cases op <;> simp only at hk <;> first | exact (Bool.noConfusion hk) | skip
        all_goals
          split at h
          · split at h <;> first | exact h.elim | (rename_i e1 e2; cases e2) | skip
          · exact h.elim
      · exact h.elim

/-- It looks at its operands and at its guard alone. -/
theorem Yl.congr {P : Program} {ops : Array Oper} {H : Hp} {nx : Nat} {o : Oper} {f f' : Nat → Option AV} {r : AV} (hy : Yl P ops H nx o f r) (he : ∀ t, t ∈ o.looksAt ops → f t = f' t) : Yl P ops H nx o f' r := by
  have hge : ∀ x, x ∈ o.op.operands → geF f x = geF f' x := by
    intro x hx
    cases x with
    | tmp t =>
      have : t ∈ o.looksAt ops := by
        unfold Oper.looksAt
        exact List.mem_append.2 (.inl (List.mem_filterMap.2 ⟨.tmp t, by simpa using hx, rfl⟩))
      simp only [geF, he t this]
    | _ => rfl
  have hwa : wantedA f ops o = wantedA f' ops o := by
    unfold wantedA
    cases hg : o.guard with
    | none => rfl
    | some p =>
      obtain ⟨j, want⟩ := p
      simp only
      cases hd : (ops[j]?).bind (·.dst) with
      | none => rfl
      | some d =>
        have : d ∈ o.looksAt ops := by
          unfold Oper.looksAt
          refine List.mem_append.2 (.inr ?_)
          simp [hg, hd]
        simp only [he d this]
  rcases hy with ⟨hw, hs⟩ | ⟨hw, hr⟩
  · refine .inl ⟨hwa ▸ hw, ?_⟩
    intro B0 O0 β O w ev hc hB hx
    exact hs B0 O0 β O w ev hc hB (fun x hx' => by rw [hge x hx']; exact hx x hx')
  · exact .inr ⟨hwa ▸ hw, hr⟩

theorem Flo.congr {P : Program} {ops : Array Oper} {o : Oper} {f f' : Nat → Option AV} {r : AV} (hy : Flo P o (geF f) r) (he : ∀ t, t ∈ o.looksAt ops → f t = f' t) : Flo P o (geF f') r := by
  have hge : ∀ x, x ∈ o.op.operands → geF f x = geF f' x := by
    intro x hx
    cases x with
    | tmp t =>
      have : t ∈ o.looksAt ops := by
        unfold Oper.looksAt
        exact List.mem_append.2 (.inl (List.mem_filterMap.2 ⟨.tmp t, by simpa using hx, rfl⟩))
      simp only [geF, he t this]
    | _ => rfl
  intro β O w ev hx
  exact hy β O w ev (fun x hx' => by rw [hge x hx']; exact hx x hx')

/-- What an operation yields, and how. -/
def Yf (P : Program) (ops : Array Oper) (H : Hp) (nx : Nat) (o : Oper) (f : Nat → Option AV) (r : AV) : Prop := Yl P ops H nx o f r ∧ (floB o = true → Flo P o (geF f) r)

/-! ### the order of the text -/
def Lex (P : Program) (ops : Array Oper) (H : Hp) (nx : Nat) (n : Nat × Nat × Nat) : List Oper → (Nat → Option AV) → List AV → Prop
  | [], _, rs => rs = []
  | o :: l, f, rs => ∃ r rest, rs = r :: rest ∧ dOk n o.dst ∧ Yf P ops H nx o f r ∧ Lex P ops H nx n l (updF f o.dst r) rest

/-- The frame when the operations of X have been carried out. -/
def foldX (X : Nat → Bool) : Nat → List Oper → List AV → (Nat → Option AV) → (Nat → Option AV)
  | k, o :: l, r :: rs, f => foldX X (k + 1) l rs (bif X k then updF f o.dst r else f)
  | _, _, _, f => f

theorem foldX_congr {X Y : Nat → Bool} : ∀ (l : List Oper) (rs : List AV) (k : Nat) (f : Nat → Option AV), (∀ i, k ≤ i → i < k + l.length → X i = Y i) → foldX X k l rs f = foldX Y k l rs f
  | [], rs, k, f, _ => by cases rs <;> rfl
  | o :: l, [], k, f, _ => rfl
  | o :: l, r :: rs, k, f, h => by
    simp only [foldX]
    rw [h k (Nat.le_refl _) (by simp), foldX_congr l rs (k + 1) _ (fun i h1 h2 => h i (by omega) (by simp; omega))]

theorem foldX_none {X : Nat → Bool} : ∀ (l : List Oper) (rs : List AV) (k : Nat) (f : Nat → Option AV), (∀ i, k ≤ i → i < k + l.length → X i = false) → foldX X k l rs f = f
  | [], rs, k, f, _ => by cases rs <;> rfl
  | o :: l, [], k, f, _ => rfl
  | o :: l, r :: rs, k, f, h => by
    simp only [foldX]
    rw [h k (Nat.le_refl _) (by simp), cond_false, foldX_none l rs (k + 1) _ (fun i h1 h2 => h i (by omega) (by simp; omega))]

/-- A slot that no operation of Y \ X (or X \ Y) writes. -/
theorem foldX_at {X Y : Nat → Bool} {t : Nat} : ∀ (l : List Oper) (rs : List AV) (k : Nat) (f f' : Nat → Option AV), (∀ i o, l[i]? = some o → o.dst = some t → X (k + i) = Y (k + i)) → f t = f' t → foldX X k l rs f t = foldX Y k l rs f' t
  | [], rs, k, f, f', _, h => by cases rs <;> exact h
  | o :: l, [], k, f, f', _, h => h
  | o :: l, r :: rs, k, f, f', hxy, h => by
    simp only [foldX]
    refine foldX_at l rs (k + 1) _ _ (fun i o' ho hd => by have := hxy (i + 1) o' (by simpa using ho) hd; rwa [show k + (i + 1) = k + 1 + i by omega] at this) ?_
    by_cases hd : o.dst = some t
    · have := hxy 0 o rfl hd
      simp only [Nat.add_zero] at this
      rw [← this]
      cases X k
      · exact h
      · simp [updF, hd]
    · have keep : ∀ f : Nat → Option AV, updF f o.dst r t = f t := by
        intro f
        cases ho : o.dst with
        | none => rfl
        | some d =>
          have : (d == t) = false := by
            simp only [beq_eq_false_iff_ne]
            intro e; exact hd (by rw [ho, e])
          simp [updF, this]
      cases X k <;> cases Y k <;> simp [keep, h]

/-- What the i-th operation of the text sees and yields. -/
theorem Lex.at {P : Program} {ops : Array Oper} {H : Hp} {nx : Nat} {n : Nat × Nat × Nat} : ∀ {l : List Oper} {f : Nat → Option AV} {rs : List AV} (k : Nat), Lex P ops H nx n l f rs → rs.length = l.length ∧
    ∀ (i : Nat) (o : Oper), l[i]? = some o → ∃ r, rs[i]? = some r ∧ dOk n o.dst ∧ Yf P ops H nx o (foldX (fun j => decide (j < k + i)) k l rs f) r
  | [], f, rs, k, h => by
    have h : rs = [] := h
    subst h
    exact ⟨rfl, fun i o hi => by simp at hi⟩
  | o :: l, f, rs, k, h => by
    obtain ⟨r, rest, rfl, hd, hy, hl⟩ := h
    obtain ⟨h1, h2⟩ := Lex.at (k + 1) hl
    refine ⟨by simp [h1], fun i o' hi => ?_⟩
    cases i with
    | zero =>
      simp at hi
      subst hi
      refine ⟨r, rfl, hd, ?_⟩
      rw [foldX_none (X := fun j => decide (j < k + 0)) (o :: l) (r :: rest) k f (fun i h1 _ => by simp; omega)]
      exact hy
    | succ i =>
      obtain ⟨r', g1, g2, g3⟩ := h2 i o' (by simpa using hi)
      refine ⟨r', by simpa using g1, g2, ?_⟩
      simp only [foldX]
      have : decide (k < k + (i + 1)) = true := by simp
      rw [this, cond_true, show k + (i + 1) = k + 1 + i by omega]
      exact g3

/-- The next result of the text, put in. -/
theorem foldX_put : ∀ (l : List Oper) (rs : List AV) (k i : Nat) (o : Oper) (r : AV) (f : Nat → Option AV) (X : Nat → Bool), l[i]? = some o → rs[i]? = some r → X (k + i) = false →
    (∀ j o', l[j]? = some o' → i < j → X (k + j) = true → ∀ d, o.dst = some d → o'.dst ≠ some d) →
    foldX (fun j => X j || j == k + i) k l rs f = updF (foldX X k l rs f) o.dst r
  | [], rs, k, i, o, r, f, X, h, _, _, _ => by simp at h
  | o' :: l, [], k, i, o, r, f, X, _, h, _, _ => by simp at h
  | o' :: l, r' :: rs, k, 0, o, r, f, X, ho, hr, hx, hlater => by
    simp at ho hr
    subst ho hr
    simp only [foldX]
    simp only [Nat.add_zero] at hx ⊢
    rw [hx]
    simp only [BEq.rfl, Bool.or_true, cond_true, cond_false]
    rw [foldX_congr (X := fun j => X j || j == k) (Y := X) l rs (k + 1) _ (fun i h1 _ => by
      have : (i == k) = false := by simp; omega
      simp [this])]
    funext t
    cases hd : o'.dst with
    | none => rfl
    | some d =>
      simp only [updF]
      by_cases e : d = t
      · subst e
        simp only [BEq.rfl, cond_true]
        have h1 := foldX_at (X := X) (Y := fun _ => false) (t := d) l rs (k + 1) (fun t => bif d == t then some r' else f t) (fun t => bif d == t then some r' else f t) (fun j o'' hj hdst => by
          cases hX : X (k + 1 + j) with
          | false => rfl
          | true => exact absurd hdst (hlater (j + 1) o'' (by simpa using hj) (by omega) (by rw [show k + (j + 1) = k + 1 + j by omega]; exact hX) d hd)) rfl
        rw [h1, foldX_none l rs (k + 1) _ (fun _ _ _ => rfl)]
        simp
      · have hne : (d == t) = false := by simpa using e
        rw [hne, cond_false]
        exact foldX_at l rs (k + 1) _ _ (fun _ _ _ _ => rfl) (by simp [hne])
  | o' :: l, r' :: rs, k, i + 1, o, r, f, X, ho, hr, hx, hlater => by
    simp only [foldX]
    have hk : (k == k + (i + 1)) = false := by simp
    rw [hk, Bool.or_false]
    have := foldX_put l rs (k + 1) i o r (bif X k then updF f o'.dst r' else f) X (by simpa using ho) (by simpa using hr) (by rw [show k + 1 + i = k + (i + 1) by omega]; exact hx)
      (fun j o'' hj hij hX => hlater (j + 1) o'' (by simpa using hj) (by omega) (by rw [show k + (j + 1) = k + 1 + j by omega]; exact hX))
    rw [show k + 1 + i = k + (i + 1) by omega] at this
    exact this

end Go.Ab

/- Parts of the proof, put together by a program. -/
import Derived.Test.YtpdecefdhkhlnaaGreatDoorQab
set_option linter.unusedVariables false
set_option linter.unusedSectionVars false
set_option linter.unusedSimpArgs false
namespace Go.Ab
variable [Dr]
open Go.RowKit
def lk : List (Nat × AV) → Nat → Option AV
  | [], _ => none
  | (t, a) :: l, s => bif t == s then some a else lk l s
def geF (f : Nat → Option AV) : Operand → AV
  | .tmp t => (f t).getD .any
  | .const c => ofV c
  | .global g => .v (.pointer (some ⟨g, 0, none⟩))
  | .func f => .fn (.func f) [] []
def updF (f : Nat → Option AV) (d : Option Nat) (r : AV) : Nat → Option AV :=
  match d with
  | none => f
  | some d => fun t => bif d == t then some r else f t
def mark1 (D : Nat) : Deferred := { target := .collected D, args := #[] }
structure DefOk (mk : Prop) (B O : Nat → Prop) (ds : List Deferred) (w : World) : Prop where
  may : ds ≠ [] → mk
  ds : ∃ Ds : List Nat, ds = Ds.map mark1 ∧ Ds.Nodup ∧ ∀ D ∈ Ds, ¬ O D ∧ ¬ B D ∧ w.heap[D]? = some (.deferred (some []))
theorem DefOk.nil (mk : Prop) (B O : Nat → Prop) (w : World) : DefOk mk B O [] w := ⟨fun h => absurd rfl h, [], rfl, List.nodup_nil, fun D h => by simp at h⟩
theorem lt_of_get {w : World} {D : Nat} {o : Obj} (h : w.heap[D]? = some o) : D < w.heap.size := (Array.getElem?_eq_some_iff.1 h).1
theorem DefOk.tr {mk : Prop} {B O O' : Nat → Prop} {ds : List Deferred} {w w' : World} (h : DefOk mk B O ds w) (t : Tr O w O' w') : DefOk mk B O' ds w' := by
  obtain ⟨Ds, h1, h2, h3⟩ := h.ds
  refine ⟨h.may, Ds, h1, h2, fun D hD => ?_⟩
  obtain ⟨a, b, c⟩ := h3 D hD
  obtain ⟨k1, k2⟩ := t.keep D (lt_of_get c) a
  exact ⟨k2, b, k1.trans c⟩
structure Gh where
  B0 : Nat → Prop
  O0 : Nat → Prop
  inv : (Nat → Prop) → World → Prop
  mark : Prop
  stab : ∀ (O : Nat → Prop) (w : World) (O' : Nat → Prop) (w' : World), inv O w → Tr O w O' w' → Pr B0 O w O' w' → inv O' w'
  p : Nat
  βp : Bt
  Op : Nat → Prop
  wp : World
  hp : ∀ k, p ≤ k → βp k = none
structure Cf (g : Gh) (β : Bt) (O : Nat → Prop) (f : Nat → Option AV) (H : Hp) (nx : Nat) (n : Nat × Nat × Nat) (a : Act) (w : World) : Prop where
  defers : DefOk g.mark g.B0 O a.defers w
  fr : ∀ t av, f t = some av → ∃ u, a.tmps[t]? = some u ∧ R β O w av u
  sz : n.1 ≤ a.tmps.size
  hc : HC g.B0 g.O0 β O H nx w
  inv : g.inv O w
  b0 : Bk g.B0 w
  pp : g.p ≤ n.2.1
  prot : ∀ k q, g.βp k = some q → β k = some q
  tr : Tr g.Op g.wp O w
section
variable {g : Gh} {β : Bt} {O : Nat → Prop} {f : Nat → Option AV} {H : Hp} {nx : Nat} {n : Nat × Nat × Nat} {a : Act} {w : World}
theorem Cf.ge (h : Cf g β O f H nx n a w) (x : Operand) : R β O w (geF f x) (a.eval x) := by
  cases x with
  | tmp t =>
    simp only [geF, Act.eval]
    cases hf : f t with
    | none => exact .any _
    | some av =>
      obtain ⟨u, h1, h2⟩ := h.fr t av hf
      rw [Array.getD_eq_getD_getElem?, h1]
      exact h2
  | const c => exact R.ofV c
  | global gg => exact R.vv _
  | func fid => exact R.mk_fn (by simp) (by simp) (fun i c hc => by simp at hc) (fun i c hc => by simp at hc)
theorem Cf.gr {w' : World} (hg : Gr w w') (h : Cf g β O f H nx n a w) : Cf g β O f H nx n a w' :=
  ⟨h.defers.tr (Tr.of_gr hg), fun t av ht => let ⟨u, h1, h2⟩ := h.fr t av ht; ⟨u, h1, h2.gr hg⟩, h.sz, h.hc.gr hg, g.stab _ _ _ _ h.inv (Tr.of_gr hg) (Pr.of_gr hg h.b0), h.b0.gr hg.size, h.pp, h.prot, h.tr.trans (Tr.of_gr hg)⟩
def dOk (n : Nat × Nat × Nat) (d : Option Nat) : Prop :=
  match d with
  | none => True
  | some d => d < n.1
theorem Cf.put {d : Option Nat} {r : AV} {u : Value} (hd : dOk n d) (hr : R β O w r u) (h : Cf g β O f H nx n a w) : Cf g β O (updF f d r) H nx n (a.put d u) w := by
  cases d with
  | none => exact h
  | some d =>
    have hd : d < n.1 := hd
    refine ⟨h.defers, fun t av ht => ?_, by simpa [Act.put] using h.sz, h.hc, h.inv, h.b0, h.pp, h.prot, h.tr⟩
    simp only [updF] at ht
    by_cases e : d = t
    · subst e
      simp only [BEq.rfl, cond_true, Option.some.injEq] at ht
      subst ht
      exact ⟨u, by simp only [Act.put]; rw [Array.getElem?_setIfInBounds_self_of_lt (by have := h.sz; omega)], hr⟩
    · have : (d == t) = false := by simpa using e
      rw [this, cond_false] at ht
      obtain ⟨u', h1, h2⟩ := h.fr t av ht
      exact ⟨u', by simp only [Act.put]; rw [Array.getElem?_setIfInBounds_ne e]; exact h1, h2⟩
end
def wantedA (f : Nat → Option AV) (ops : Array Oper) (o : Oper) : Option Bool :=
  match o.guard with
  | none => some true
  | some (j, want) =>
    match (ops[j]?).bind (·.dst) with
    | some d =>
      match f d with
      | some (.v (.bool b)) => some (b == want)
      | some (.v (.tuple _)) => some false
      | _ => none
    | none => none
theorem wantedA_ok {g : Gh} {β : Bt} {O : Nat → Prop} {f : Nat → Option AV} {H : Hp} {nx : Nat} {n : Nat × Nat × Nat} {a : Act} {w : World} {ops : Array Oper} {o : Oper} {b : Bool} (h : Cf g β O f H nx n a w) (hw : wantedA f ops o = some b) :
    Region.wanted o (yielded ops a.tmps) = b := by
  unfold wantedA at hw
  unfold Region.wanted
  cases ho : o.guard with
  | none => simp [ho] at hw; simpa using hw
  | some p =>
    obtain ⟨j, want⟩ := p
    simp only [ho] at hw ⊢
    unfold yielded
    cases hd : (ops[j]?).bind (·.dst) with
    | none => simp [hd] at hw
    | some d =>
      simp only [hd] at hw
      simp only [Option.bind_some]
      cases hf : f d with
      | none => simp [hf] at hw
      | some av =>
        obtain ⟨u, h1, h2⟩ := h.fr d av hf
        rw [h1]
        cases av <;> simp only [hf, reduceCtorEq] at hw
        rename_i x
        have := h2.v_inv
        subst this
        cases u <;> simp only [reduceCtorEq, Option.some.injEq] at hw
        · subst hw; rename_i b; cases b <;> cases want <;> rfl
        · subst hw; rfl
def Fn (ro : Option Nat) : Fence :=
  match ro with
  | none => Fence.wide
  | some l => Fence.wide.inRound l
theorem Fn_fn (ro : Option Nat) (f : FuncId) : (Fn ro).fn f := by cases ro <;> exact True.intro
theorem Fn_round (ro : Option Nat) : (Fn ro).round = ro := by cases ro <;> rfl
theorem Fn_depth (ro : Option Nat) : (Fn ro).depth = none := by cases ro <;> rfl
theorem callsIn_fn {ro : Option Nat} {n : Nat} {P : Program} {f : FuncId} {args : Array Value} {w : World} {R : Ending → World → Prop} (h : Calls P f args w R) : CallsIn (Fn ro) n P f args w R := by
  have h' : CallsIn Fence.wide n P f args w R := callsIn_wide.2 h
  cases ro with
  | none => exact h'
  | some l => exact h'
def uponR (P : Program) (o : Oper) (a : Act) (K : Act → World → Prop) : Result Next → Prop
  | .ok (.value v) w' => K (a.put o.dst v) w'
  | .ok .skip w' => K (a.put o.dst undef) w'
  | .ok (.enter f args) w' => Calls P f args w' (fun e w'' => ∃ u, e = .returned u ∧ K (a.put o.dst u) w'')
  | _ => False
theorem wpIn_run {ro : Option Nat} {P : Program} {o : Oper} {a : Act} {w : World} {K : Act → World → Prop} {Q : Exit → Act → World → Prop} (h : uponR P o a K ((execOp a.eval o).run P w)) : o.wpIn (Fn ro) 0 P a w K Q := by
  have hd : ∀ c, o.op ≠ .defer c := by
    intro c hc
    have : execOp a.eval o = (do let d ← resolve a.eval c o.type; pure (.defer d)) := by simp [execOp, hc]
    rw [this, Sem.run_bind] at h
    cases hr : (resolve a.eval c o.type).run P w with
    | ok d w' => rw [hr] at h; simp [uponR] at h
    | halt x w' => rw [hr] at h; simp [uponR, Result.andThen] at h
  refine ⟨fun f _ => Fn_fn ro f, ?_⟩
  rw [Oper.semAt_eq _ _ _ hd]
  generalize (execOp a.eval o).run P w = res at h
  cases res with
  | halt x w' => exact h.elim
  | ok nxt w' =>
    cases nxt <;> simp only [uponR] at h
    case value u => exact h
    case skip => exact h
    case enter f args =>
      refine ⟨fun hh => ?_, callsIn_fn (h.mono fun e w'' he => ?_)⟩
      · rw [Fn_depth] at hh; cases hh
      obtain ⟨u, rfl, hk⟩ := he
      exact hk
def Yl (P : Program) (ops : Array Oper) (H : Hp) (nx : Nat) (o : Oper) (f : Nat → Option AV) (r : AV) : Prop :=
  (wantedA f ops o = some true ∧ StillOk P o (geF f) H nx r) ∨ (wantedA f ops o = some false ∧ r = .v undef)
def opAt (ro : Option Nat) (P : Program) (ops : Array Oper) (Q : Exit → Act → World → Prop) (o : Oper) (K : Act → World → Prop) (a : Act) (w : World) : Prop :=
  if Region.wanted o (yielded ops a.tmps) then o.wpIn (Fn ro) 0 P a w K Q else (∀ f, o.about P w a.eval = some f → (Fn ro).fn f) ∧ K (a.put o.dst undef) w
theorem still_wp {ro : Option Nat} {P : Program} {g : Gh} {β : Bt} {O : Nat → Prop} {f : Nat → Option AV} {H : Hp} {nx : Nat} {n : Nat × Nat × Nat} {a : Act} {w : World} {o : Oper} {r : AV} (h : Cf g β O f H nx n a w) (hd : dOk n o.dst)
    (hy : StillOk P o (geF f) H nx r) {K : Act → World → Prop} {Q : Exit → Act → World → Prop} (hK : ∀ a' w', Cf g β O (updF f o.dst r) H nx n a' w' → K a' w') : o.wpIn (Fn ro) 0 P a w K Q := by
  have h1 := hy g.B0 g.O0 β O w a.eval h.hc h.b0 (fun x _ => h.ge x)
  refine wpIn_run ?_
  generalize (execOp a.eval o).run P w = res at h1
  cases res with
  | halt x w' => exact h1.elim
  | ok nxt w' =>
    cases nxt <;> simp only [uponR] at h1 ⊢
    case value u => exact hK _ _ ((h.gr h1.1).put hd h1.2)
    case skip => exact hK _ _ ((h.gr h1.1).put hd h1.2)
    case enter fid args =>
      obtain ⟨rfl, hc⟩ := h1
      refine hc.mono fun e w'' he => ?_
      obtain ⟨u, rfl, hg, hr⟩ := he
      exact ⟨u, rfl, hK _ _ ((h.gr hg).put hd hr)⟩
    all_goals exact h1.elim
theorem Yl.opAt {ro : Option Nat} {P : Program} {ops : Array Oper} {g : Gh} {β : Bt} {O : Nat → Prop} {f : Nat → Option AV} {H : Hp} {nx : Nat} {n : Nat × Nat × Nat} {a : Act} {w : World} {o : Oper} {r : AV} (hy : Yl P ops H nx o f r) (h : Cf g β O f H nx n a w) (hd : dOk n o.dst)
    {K : Act → World → Prop} {Q : Exit → Act → World → Prop} (hK : ∀ a' w', Cf g β O (updF f o.dst r) H nx n a' w' → K a' w') : Ab.opAt ro P ops Q o K a w := by
  unfold Ab.opAt
  rcases hy with ⟨hw, hs⟩ | ⟨hw, rfl⟩
  · rw [wantedA_ok h hw, if_pos rfl]
    exact still_wp h hd hs hK
  · rw [wantedA_ok h hw]
    simp only [Bool.false_eq_true, if_false]
    exact ⟨fun f _ => Fn_fn ro f, hK _ _ (h.put hd (R.vv undef))⟩
def floB (o : Oper) : Bool := o.guard.isNone && match o.op with
  | .move _ => true
  | .assign _ => true
  | .extract _ _ => true
  | .indexAddr _ _ _ => true
  | .fieldAddr _ _ _ => true
  | .binOp op _ _ _ _ => match op with
    | .add => true
    | .sub => true
    | .quo => true
    | .rem => true
    | _ => false
  | _ => false
def Flo (P : Program) (o : Oper) (ge : Operand → AV) (r : AV) : Prop :=
  ∀ (β : Bt) (O : Nat → Prop) (w : World) (ev : Operand → Value), (∀ x, x ∈ o.op.operands → R β O w (ge x) (ev x)) → ∃ u, (∀ w', (execOp ev o).run P w' = .ok (.value u) w') ∧ R β O w r u
theorem floB_guard {o : Oper} (h : floB o = true) : o.guard = none := by
  simp only [floB, Bool.and_eq_true, Option.isNone_iff_eq_none] at h
  exact h.1
theorem floB_about {o : Oper} (h : floB o = true) (P : Program) (w : World) (ev : Operand → Value) : o.about P w ev = none := by
  simp only [floB, Bool.and_eq_true] at h
  have h := h.2
  unfold Oper.about
  cases ho : o.op <;> rw [ho] at h <;> first | rfl | exact (Bool.noConfusion h)
section
variable {E : Ev} {o : Oper} {ge : Operand → AV} {H : Hp} {nx : Nat} {K : AV → Prop}
theorem floField (hE : EvOk E) {s : TypeId} {x : Operand} {f : Nat} (ho : o.op = .fieldAddr s x f) (h : fieldA E.T s (ge x) f K) : ∃ r, Flo E.P o ge r ∧ K r := by
  unfold fieldA at h
  split at h
  · rename_i si hs
    split at h
    · rename_i fs hk
      split at h
      · rename_i off ft hf
        split at h
        · rename_i fi hft
          obtain ⟨hz, h⟩ := h
          have run : ∀ (w : World) (a : Addr), (Instr.fieldAt s (.pointer (some a)) f).run E.P w = .ok (.pointer (some (a.add off))) w := by
            intro w a
            obtain ⟨gs, h1, h2⟩ := run_und_struct hE.T hs hk w
            have hsz := run_size hE.T hft w
            have hg : ∃ g : Field, gs[f]? = some g ∧ g.offset = off ∧ g.type = ft := by
              rw [h2] at hf
              simp only [List.getElem?_map, Array.getElem?_toList] at hf
              cases hq : gs[f]? with
              | none => simp [hq] at hf
              | some g => simp [hq] at hf; exact ⟨g, rfl, hf.1, hf.2⟩
            obtain ⟨g, hg1, hg2, hg3⟩ := hg
            simp [Instr.fieldAt, h1, hg1, Instr.sureAddr, fieldPlace, hg3, hsz, hz, hg2]
          split at h
          · rename_i cs i hx
            refine ⟨_, fun β O w ev hop => ?_, h⟩
            obtain ⟨b, of, hO, hb, hu, hcell⟩ := (hx ▸ hop x (by simp [ho, Op.operands])).pt_inv
            exact ⟨.pointer (some ⟨b, of + (i + off), none⟩), fun w' => by simp only [execOp, ho, hu, Sem.run_bind, run, Result.andThen_ok, Sem.run_pure, addr_add, Nat.add_assoc], .pl _ _ (Rp.mk_pt hO hb hcell)⟩
          · rename_i k of hx
            refine ⟨_, fun β O w ev hop => ?_, h⟩
            obtain ⟨b, st, hb, hu⟩ := (hx ▸ hop x (by simp [ho, Op.operands])).lp_inv
            exact ⟨.pointer (some ⟨b, st + (of + off), none⟩), fun w' => by simp only [execOp, ho, hu, Sem.run_bind, run, Result.andThen_ok, Sem.run_pure, addr_add, Nat.add_assoc], .lp k (of + off) b st hb⟩
          · exact h.elim
        · exact h.elim
      · exact h.elim
    · exact h.elim
  · exact h.elim
theorem floIndex (hE : EvOk E) {t : TypeId} {x ix : Operand} (ho : o.op = .indexAddr t x ix) (h : indexA E.T t (ge x) (ge ix) K) : ∃ r, Flo E.P o ge r ∧ K r := by
  unfold indexA at h
  split at h
  · rename_i ti ht
    split at h
    · rename_i e hk
      split at h
      · rename_i ei he
        split at h
        · rename_i sz n cs ik i hx hix
          obtain ⟨rfl, h0, h1, h⟩ := h
          refine ⟨_, fun β O w ev hop => ?_, h⟩
          have hi := (hix ▸ hop ix (by simp [ho, Op.operands])).v_inv
          obtain ⟨hl, ⟨rfl, _, _⟩ | ⟨b, off, cap, hO, hb, hn, hu, hc⟩⟩ := (hx ▸ hop x (by simp [ho, Op.operands])).sl_inv
          · omega
          · refine ⟨.pointer (some ⟨b, off + i.toNat * ei.size, none⟩), fun w' => ?_, .pl _ _ (Rp.mk_pt hO hb hc)⟩
            simp only [execOp, ho, hi, hu, Sem.run_bind, run_indexAt_sl hE ht hk he w' _ _ _ _ _ h0 h1, addr_add, Result.andThen_ok, Sem.run_pure]
        · rename_i k off sz n ik i hx hix
          obtain ⟨rfl, h0, h1, h⟩ := h
          refine ⟨_, fun β O w ev hop => ?_, h⟩
          have hi := (hix ▸ hop ix (by simp [ho, Op.operands])).v_inv
          rcases (hx ▸ hop x (by simp [ho, Op.operands])).ls_inv with ⟨_, rfl, _⟩ | ⟨b, st, cap, hb, hn, hu, _⟩
          · omega
          · refine ⟨.pointer (some ⟨b, st + (off + i.toNat * ei.size), none⟩), fun w' => ?_, .lp k _ b st hb⟩
            simp only [execOp, ho, hi, hu, Sem.run_bind, run_indexAt_sl hE ht hk he w' _ _ _ _ _ h0 h1, addr_add, Result.andThen_ok, Sem.run_pure, Nat.add_assoc]
        · exact h.elim
      · exact h.elim
    · rename_i m e hk
      split at h
      · rename_i ei he
        split at h
        · rename_i cs j ik i hx hix
          obtain ⟨h0, h1, h⟩ := h
          refine ⟨_, fun β O w ev hop => ?_, h⟩
          have hi := (hix ▸ hop ix (by simp [ho, Op.operands])).v_inv
          obtain ⟨b, off, hO, hb, hu, hc⟩ := (hx ▸ hop x (by simp [ho, Op.operands])).pt_inv
          refine ⟨.pointer (some ⟨b, off + (j + i.toNat * ei.size), none⟩), fun w' => ?_, .pl _ _ (Rp.mk_pt hO hb hc)⟩
          simp only [execOp, ho, hi, hu, Sem.run_bind, run_indexAt_arr hE ht hk he w' _ _ _ h0 h1, addr_add, Result.andThen_ok, Sem.run_pure, Nat.add_assoc]
        · rename_i k j ik i hx hix
          obtain ⟨h0, h1, h⟩ := h
          refine ⟨_, fun β O w ev hop => ?_, h⟩
          have hi := (hix ▸ hop ix (by simp [ho, Op.operands])).v_inv
          obtain ⟨b, st, hb, hu⟩ := (hx ▸ hop x (by simp [ho, Op.operands])).lp_inv
          refine ⟨.pointer (some ⟨b, st + (j + i.toNat * ei.size), none⟩), fun w' => ?_, .lp k _ b st hb⟩
          simp only [execOp, ho, hi, hu, Sem.run_bind, run_indexAt_arr hE ht hk he w' _ _ _ h0 h1, addr_add, Result.andThen_ok, Sem.run_pure, Nat.add_assoc]
        · exact h.elim
      · exact h.elim
    · exact h.elim
  · exact h.elim
end
theorem flo_ok {E : Ev} {o : Oper} {ge : Operand → AV} {H : Hp} {nx : Nat} {K : AV → Prop} (hE : EvOk E) (h : sop E o ge H nx K) : ∃ r, StillOk E.P o ge H nx r ∧ (floB o = true → Flo E.P o ge r) ∧ K r := by
  cases hfl : floB o with
  | false => obtain ⟨r, h1, h2⟩ := sop_ok hE h; exact ⟨r, h1, fun h => (by cases h), h2⟩
  | true =>
    have hk := hfl
    simp only [floB, Bool.and_eq_true] at hk
    have hk := hk.2
    have fin : ∀ r, Flo E.P o ge r → K r → ∃ r, StillOk E.P o ge H nx r ∧ (true = true → Flo E.P o ge r) ∧ K r := fun r hr hK =>
      ⟨r, StillOk.pure fun B0 O0 β O w ev hc hB hx => let ⟨u, h1, h2⟩ := hr β O w ev hx; ⟨u, h1 w, h2⟩, fun _ => hr, hK⟩
    cases ho : o.op <;> rw [ho] at hk <;> first | exact (Bool.noConfusion hk) | skip
    case move x =>
      simp only [sop, ho] at h
      exact fin _ (fun β O w ev hx => ⟨ev x, fun w' => by simp [execOp, ho], hx x (by simp [ho, Op.operands])⟩) h
    case assign x =>
      simp only [sop, ho] at h
      exact fin _ (fun β O w ev hx => ⟨ev x, fun w' => by simp [execOp, ho], hx x (by simp [ho, Op.operands])⟩) h
    case indexAddr t x ix =>
      simp only [sop, ho] at h
      obtain ⟨r, h1, h2⟩ := floIndex hE ho h
      exact fin r h1 h2
    case fieldAddr t x f =>
      simp only [sop, ho] at h
      obtain ⟨r, h1, h2⟩ := floField hE ho h
      exact fin r h1 h2
    case extract x i =>
      simp only [sop, ho] at h
      unfold exA at h
      split at h
      · rename_i cs hx
        split at h
        · rename_i c hc
          refine fin _ (fun β O w ev hop => ?_) h
          obtain ⟨us, hu, hs, hg⟩ := (hx ▸ hop x (by simp [ho, Op.operands])).tu_inv
          obtain ⟨y, h1, h2⟩ := hg i c hc
          exact ⟨y, fun w' => by simp [execOp, ho, hu, Instr.extract, h1], h2⟩
        · exact h.elim
      · exact h.elim
    case binOp op t x y t' =>
      simp only [sop, ho] at h
      have key : ∀ (a b : Value) (v : Value), ge x = .v a → ge y = .v b → (∀ w, (do eqGuard op t x y a b; binOp op t a b : Sem Value).run E.P w = .ok v w) → Flo E.P o ge (.v v) := by
        intro a b v hx hy hrun β O w ev hop
        have h1 : ev x = a := (hx ▸ hop x (by simp [ho, Op.operands])).v_inv
        have h2 : ev y = b := (hy ▸ hop y (by simp [ho, Op.operands])).v_inv
        refine ⟨v, fun w' => ?_, R.vv v⟩
        have := hrun w'
        simp only [execOp, ho, h1, h2]
        simp only [Sem.run_bind] at this ⊢
        simp [this]
      unfold bop at h
      split at h
      · rename_i k a k' b hx hy
        replace h : k = k' ∧ bopI op k a b K := by
          cases op <;> first | exact h | exact (Bool.noConfusion hk)
        obtain ⟨rfl, h⟩ := h
        have hg := fun w => run_guard_int E.P w op t x y k k a b
        cases op <;> simp only [bopI] at h hk <;> first | exact (Bool.noConfusion hk) | skip
        case add => exact fin _ (key _ _ _ hx hy (fun w => by simp [hg, binOp, Op.intArith])) h
        case sub => exact fin _ (key _ _ _ hx hy (fun w => by simp [hg, binOp, Op.intArith])) h
        case quo => exact fin _ (key _ _ _ hx hy (fun w => by simp [hg, binOp, Op.intDiv, h.1])) h.2
        case rem => exact fin _ (key _ _ _ hx hy (fun w => by simp [hg, binOp, Op.intDiv, h.1])) h.2
      · rename_i a b hx hy
        have hg := fun w => run_guard_string E.P w op t x y a b
        cases op <;> simp only [bopS] at h hk <;> first | exact (Bool.noConfusion hk) | skip
        case add =>
          have hle : ¬ (((a.size + b.size : Nat) : Int) > IntKind.i64.max) := by simp [IntKind.max, IntKind.signed, IntKind.bits]; omega
          exact fin _ (key _ _ _ hx hy (fun w => by simp only [Sem.run_bind, hg, Result.andThen_ok, binOp, Op.stringOp, if_neg hle, Sem.run_pure])) h.2
      · cases op <;> simp only at hk <;> first | exact (Bool.noConfusion hk) | skip
        all_goals
          split at h
          · split at h <;> first | exact h.elim | (rename_i e1 e2; cases e2) | skip
          · exact h.elim
      · cases op <;> simp only at hk <;> first | exact (Bool.noConfusion hk) | skip
        all_goals
          split at h
          · exact h.2.2.elim
          · split at h
            · exact h.2.2.elim
            · exact h.elim
      · cases op <;> simp only at hk <;> first | exact (Bool.noConfusion hk) | skip
        all_goals
          obtain ⟨_, h⟩ := h
          split at h
          · split at h
            · split at h
              · exact h.2.elim
              · exact h.elim
            · exact h.elim
          · exact h.elim
      · cases op <;> simp only at hk <;> first | exact (Bool.noConfusion hk) | skip
        all_goals
          split at h
          · split at h <;> first | exact h.elim | (rename_i e1 e2; cases e2) | skip
          · exact h.elim
      · cases op <;> simp only at hk <;> first | exact (Bool.noConfusion hk) | skip
        all_goals
          obtain ⟨_, h⟩ := h
          split at h
          · split at h <;> first | exact h.elim | (rename_i e1 e2; cases e2) | skip
          · exact h.elim
      · cases op <;> simp only at hk <;> first | exact (Bool.noConfusion hk) | skip
        all_goals
          split at h
          · split at h <;> first | exact h.elim | (rename_i e1 e2; cases e2) | skip
          · exact h.elim
      · exact h.elim
theorem Yl.congr {P : Program} {ops : Array Oper} {H : Hp} {nx : Nat} {o : Oper} {f f' : Nat → Option AV} {r : AV} (hy : Yl P ops H nx o f r) (he : ∀ t, t ∈ o.looksAt ops → f t = f' t) : Yl P ops H nx o f' r := by
  have hge : ∀ x, x ∈ o.op.operands → geF f x = geF f' x := by
    intro x hx
    cases x with
    | tmp t =>
      have : t ∈ o.looksAt ops := by
        unfold Oper.looksAt
        exact List.mem_append.2 (.inl (List.mem_filterMap.2 ⟨.tmp t, by simpa using hx, rfl⟩))
      simp only [geF, he t this]
    | _ => rfl
  have hwa : wantedA f ops o = wantedA f' ops o := by
    unfold wantedA
    cases hg : o.guard with
    | none => rfl
    | some p =>
      obtain ⟨j, want⟩ := p
      simp only
      cases hd : (ops[j]?).bind (·.dst) with
      | none => rfl
      | some d =>
        have : d ∈ o.looksAt ops := by
          unfold Oper.looksAt
          refine List.mem_append.2 (.inr ?_)
          simp [hg, hd]
        simp only [he d this]
  rcases hy with ⟨hw, hs⟩ | ⟨hw, hr⟩
  · refine .inl ⟨hwa ▸ hw, ?_⟩
    intro B0 O0 β O w ev hc hB hx
    exact hs B0 O0 β O w ev hc hB (fun x hx' => by rw [hge x hx']; exact hx x hx')
  · exact .inr ⟨hwa ▸ hw, hr⟩
theorem Flo.congr {P : Program} {ops : Array Oper} {o : Oper} {f f' : Nat → Option AV} {r : AV} (hy : Flo P o (geF f) r) (he : ∀ t, t ∈ o.looksAt ops → f t = f' t) : Flo P o (geF f') r := by
  have hge : ∀ x, x ∈ o.op.operands → geF f x = geF f' x := by
    intro x hx
    cases x with
    | tmp t =>
      have : t ∈ o.looksAt ops := by
        unfold Oper.looksAt
        exact List.mem_append.2 (.inl (List.mem_filterMap.2 ⟨.tmp t, by simpa using hx, rfl⟩))
      simp only [geF, he t this]
    | _ => rfl
  intro β O w ev hx
  exact hy β O w ev (fun x hx' => by rw [hge x hx']; exact hx x hx')
def Yf (P : Program) (ops : Array Oper) (H : Hp) (nx : Nat) (o : Oper) (f : Nat → Option AV) (r : AV) : Prop := Yl P ops H nx o f r ∧ (floB o = true → Flo P o (geF f) r)
def Lex (P : Program) (ops : Array Oper) (H : Hp) (nx : Nat) (n : Nat × Nat × Nat) : List Oper → (Nat → Option AV) → List AV → Prop
  | [], _, rs => rs = []
  | o :: l, f, rs => ∃ r rest, rs = r :: rest ∧ dOk n o.dst ∧ Yf P ops H nx o f r ∧ Lex P ops H nx n l (updF f o.dst r) rest
def foldX (X : Nat → Bool) : Nat → List Oper → List AV → (Nat → Option AV) → (Nat → Option AV)
  | k, o :: l, r :: rs, f => foldX X (k + 1) l rs (bif X k then updF f o.dst r else f)
  | _, _, _, f => f
theorem foldX_congr {X Y : Nat → Bool} : ∀ (l : List Oper) (rs : List AV) (k : Nat) (f : Nat → Option AV), (∀ i, k ≤ i → i < k + l.length → X i = Y i) → foldX X k l rs f = foldX Y k l rs f
  | [], rs, k, f, _ => by cases rs <;> rfl
  | o :: l, [], k, f, _ => rfl
  | o :: l, r :: rs, k, f, h => by
    simp only [foldX]
    rw [h k (Nat.le_refl _) (by simp), foldX_congr l rs (k + 1) _ (fun i h1 h2 => h i (by omega) (by simp; omega))]
theorem foldX_none {X : Nat → Bool} : ∀ (l : List Oper) (rs : List AV) (k : Nat) (f : Nat → Option AV), (∀ i, k ≤ i → i < k + l.length → X i = false) → foldX X k l rs f = f
  | [], rs, k, f, _ => by cases rs <;> rfl
  | o :: l, [], k, f, _ => rfl
  | o :: l, r :: rs, k, f, h => by
    simp only [foldX]
    rw [h k (Nat.le_refl _) (by simp), cond_false, foldX_none l rs (k + 1) _ (fun i h1 h2 => h i (by omega) (by simp; omega))]
theorem foldX_at {X Y : Nat → Bool} {t : Nat} : ∀ (l : List Oper) (rs : List AV) (k : Nat) (f f' : Nat → Option AV), (∀ i o, l[i]? = some o → o.dst = some t → X (k + i) = Y (k + i)) → f t = f' t → foldX X k l rs f t = foldX Y k l rs f' t
  | [], rs, k, f, f', _, h => by cases rs <;> exact h
  | o :: l, [], k, f, f', _, h => h
  | o :: l, r :: rs, k, f, f', hxy, h => by
    simp only [foldX]
    refine foldX_at l rs (k + 1) _ _ (fun i o' ho hd => by have := hxy (i + 1) o' (by simpa using ho) hd; rwa [show k + (i + 1) = k + 1 + i by omega] at this) ?_
    by_cases hd : o.dst = some t
    · have := hxy 0 o rfl hd
      simp only [Nat.add_zero] at this
      rw [← this]
      cases X k
      · exact h
      · simp [updF, hd]
    · have keep : ∀ f : Nat → Option AV, updF f o.dst r t = f t := by
        intro f
        cases ho : o.dst with
        | none => rfl
        | some d =>
          have : (d == t) = false := by
            simp only [beq_eq_false_iff_ne]
            intro e; exact hd (by rw [ho, e])
          simp [updF, this]
      cases X k <;> cases Y k <;> simp [keep, h]
theorem Lex.at {P : Program} {ops : Array Oper} {H : Hp} {nx : Nat} {n : Nat × Nat × Nat} : ∀ {l : List Oper} {f : Nat → Option AV} {rs : List AV} (k : Nat), Lex P ops H nx n l f rs → rs.length = l.length ∧
    ∀ (i : Nat) (o : Oper), l[i]? = some o → ∃ r, rs[i]? = some r ∧ dOk n o.dst ∧ Yf P ops H nx o (foldX (fun j => decide (j < k + i)) k l rs f) r
  | [], f, rs, k, h => by
    have h : rs = [] := h
    subst h
    exact ⟨rfl, fun i o hi => by simp at hi⟩
  | o :: l, f, rs, k, h => by
    obtain ⟨r, rest, rfl, hd, hy, hl⟩ := h
    obtain ⟨h1, h2⟩ := Lex.at (k + 1) hl
    refine ⟨by simp [h1], fun i o' hi => ?_⟩
    cases i with
    | zero =>
      simp at hi
      subst hi
      refine ⟨r, rfl, hd, ?_⟩
      rw [foldX_none (X := fun j => decide (j < k + 0)) (o :: l) (r :: rest) k f (fun i h1 _ => by simp; omega)]
      exact hy
    | succ i =>
      obtain ⟨r', g1, g2, g3⟩ := h2 i o' (by simpa using hi)
      refine ⟨r', by simpa using g1, g2, ?_⟩
      simp only [foldX]
      have : decide (k < k + (i + 1)) = true := by simp
      rw [this, cond_true, show k + (i + 1) = k + 1 + i by omega]
      exact g3
theorem foldX_put : ∀ (l : List Oper) (rs : List AV) (k i : Nat) (o : Oper) (r : AV) (f : Nat → Option AV) (X : Nat → Bool), l[i]? = some o → rs[i]? = some r → X (k + i) = false →
    (∀ j o', l[j]? = some o' → i < j → X (k + j) = true → ∀ d, o.dst = some d → o'.dst ≠ some d) →
    foldX (fun j => X j || j == k + i) k l rs f = updF (foldX X k l rs f) o.dst r
  | [], rs, k, i, o, r, f, X, h, _, _, _ => by simp at h
  | o' :: l, [], k, i, o, r, f, X, _, h, _, _ => by simp at h
  | o' :: l, r' :: rs, k, 0, o, r, f, X, ho, hr, hx, hlater => by
    simp at ho hr
    subst ho hr
    simp only [foldX]
    simp only [Nat.add_zero] at hx ⊢
    rw [hx]
    simp only [BEq.rfl, Bool.or_true, cond_true, cond_false]
    rw [foldX_congr (X := fun j => X j || j == k) (Y := X) l rs (k + 1) _ (fun i h1 _ => by
      have : (i == k) = false := by simp; omega
      simp [this])]
    funext t
    cases hd : o'.dst with
    | none => rfl
    | some d =>
      simp only [updF]
      by_cases e : d = t
      · subst e
        simp only [BEq.rfl, cond_true]
        have h1 := foldX_at (X := X) (Y := fun _ => false) (t := d) l rs (k + 1) (fun t => bif d == t then some r' else f t) (fun t => bif d == t then some r' else f t) (fun j o'' hj hdst => by
          cases hX : X (k + 1 + j) with
          | false => rfl
          | true => exact absurd hdst (hlater (j + 1) o'' (by simpa using hj) (by omega) (by rw [show k + (j + 1) = k + 1 + j by omega]; exact hX) d hd)) rfl
        rw [h1, foldX_none l rs (k + 1) _ (fun _ _ _ => rfl)]
        simp
      · have hne : (d == t) = false := by simpa using e
        rw [hne, cond_false]
        exact foldX_at l rs (k + 1) _ _ (fun _ _ _ _ => rfl) (by simp [hne])
  | o' :: l, r' :: rs, k, i + 1, o, r, f, X, ho, hr, hx, hlater => by
    simp only [foldX]
    have hk : (k == k + (i + 1)) = false := by simp
    rw [hk, Bool.or_false]
    have := foldX_put l rs (k + 1) i o r (bif X k then updF f o'.dst r' else f) X (by simpa using ho) (by simpa using hr) (by rw [show k + 1 + i = k + (i + 1) by omega]; exact hx)
      (fun j o'' hj hij hX => hlater (j + 1) o'' (by simpa using hj) (by omega) (by rw [show k + (j + 1) = k + 1 + j by omega]; exact hX))
    rw [show k + 1 + i = k + (i + 1) by omega] at this
    exact this
end Go.Ab
set_option linter.unusedVariables false
set_option linter.unusedSimpArgs false
namespace Go.Ab
variable [Dr]
open Go.RowKit
def preds (o : Oper) : List Nat := (o.after.toList.filter (Region.binds .any)).map (·.on)
def orAll (ms : List Nat) : List Nat → Nat
  | [] => 0
  | p :: ps => orAll ms ps ||| ((1 <<< p) ||| ms.getD p 0)
def ancs : List Oper → List Nat → List Nat
  | [], ms => ms
  | o :: l, ms => ancs l (ms ++ [orAll ms (preds o)])
theorem orAll_bit (ms : List Nat) (j : Nat) : ∀ (ps : List Nat), (orAll ms ps).testBit j = true → ∃ p ∈ ps, j = p ∨ (ms.getD p 0).testBit j = true
  | [], h => by simp [orAll] at h
  | p :: ps, h => by
    simp only [orAll, Nat.testBit_or, Bool.or_eq_true] at h
    rcases h with h | h | h
    · obtain ⟨q, hq, h⟩ := orAll_bit ms j ps h
      exact ⟨q, by simp [hq], h⟩
    · refine ⟨p, by simp, .inl ?_⟩
      rw [Nat.one_shiftLeft, Nat.testBit_two_pow] at h
      simpa using (of_decide_eq_true h).symm
    · exact ⟨p, by simp, .inr h⟩
theorem ancs_take : ∀ (l : List Oper) (ms : List Nat) (k : Nat), k ≤ ms.length → (ancs l ms).take k = ms.take k
  | [], ms, k, _ => rfl
  | o :: l, ms, k, h => by
    rw [ancs, ancs_take l _ k (by simp; omega), List.take_append_of_le_length h]
theorem ancs_getD (l : List Oper) (ms : List Nat) (k : Nat) (h : k < ms.length) : (ancs l ms).getD k 0 = ms.getD k 0 := by
  have := ancs_take l ms (k + 1) (by omega)
  have h1 : ((ancs l ms).take (k + 1))[k]? = (ms.take (k + 1))[k]? := by rw [this]
  rw [List.getElem?_take_of_lt (by omega), List.getElem?_take_of_lt (by omega)] at h1
  simp [List.getD_eq_getElem?_getD, h1]
theorem ancs_at : ∀ (l : List Oper) (ms : List Nat) (i : Nat) (o : Oper), l[i]? = some o → ∃ ms', (ancs l ms).getD (ms.length + i) 0 = orAll ms' (preds o) ∧ ms'.length = ms.length + i ∧ ∀ p, p < ms.length + i → ms'.getD p 0 = (ancs l ms).getD p 0
  | [], ms, i, o, h => by simp at h
  | o' :: l, ms, 0, o, h => by
    simp at h
    subst h
    refine ⟨ms, ?_, by simp, fun p hp => ?_⟩
    · rw [ancs, ancs_getD l _ _ (by simp)]
      simp
    · rw [ancs, ancs_getD l _ _ (by simp at hp ⊢; omega)]
      simp only [Nat.add_zero] at hp
      simp [List.getD_eq_getElem?_getD, List.getElem?_append_left hp]
  | o' :: l, ms, i + 1, o, h => by
    obtain ⟨ms', h1, h2, h3⟩ := ancs_at l (ms ++ [orAll ms (preds o')]) i o (by simpa using h)
    simp only [List.length_append, List.length_cons, List.length_nil] at h1 h2 h3
    refine ⟨ms', ?_, by omega, fun p hp => ?_⟩
    · rw [ancs, show ms.length + (i + 1) = ms.length + (0 + 1) + i by omega]; exact h1
    · rw [ancs]; exact h3 p (by omega)
def flB (ops : Array Oper) (l : List Oper) (m : Nat) (j : Nat) (oj : Oper) : Bool :=
  floB oj && (List.range l.length).all fun k => k == j || m.testBit k || match l[k]? with
    | none => true
    | some ok => ok.after.toList.any (fun e => Region.binds .any e && e.on == j) || oj.apart ops ok
def noSel (l : List Oper) : Bool := l.all fun o => match o.op with
  | .select _ _ => false
  | _ => true
def ordB (fl : Bool) (ops : Array Oper) (h : Nat) : Bool :=
  let l := ops.toList
  let ms := ancs l []
  decide (h ≤ ops.size) &&
  (bif fl then noSel l else true) &&
  (List.range ops.size).all fun i =>
    match l[i]? with
    | none => true
    | some o =>
      (preds o).all (fun p => decide (p < i)) &&
      (List.range i).all fun j =>
        match l[j]? with
        | none => true
        | some o' => (ms.getD i 0).testBit j || (decide (i < h) && o'.apart ops o) || (fl && decide (j < h) && flB ops l (ms.getD j 0) j o' && o'.apart ops o)
section
variable {fl : Bool} {ops : Array Oper} {h : Nat}
theorem ordB_le (hb : ordB fl ops h = true) : h ≤ ops.size := by
  simp only [ordB, Bool.and_eq_true, decide_eq_true_eq] at hb
  exact hb.1.1
theorem ordB_sel (hb : ordB fl ops h = true) (hf : fl = true) (j : Nat) (o : Oper) (cs : Array SelectCase) (b : Bool) (ho : ops[j]? = some o) : o.op ≠ .select cs b := by
  simp only [ordB, Bool.and_eq_true, decide_eq_true_eq] at hb
  have h1 := hb.1.2
  rw [hf, cond_true] at h1
  unfold noSel at h1
  rw [List.all_eq_true] at h1
  have hm : o ∈ ops.toList := by
    have := Array.mem_of_getElem? ho
    simpa using this
  intro e
  have := h1 o hm
  rw [e] at this
  cases this
theorem ordB_pred (hb : ordB fl ops h = true) {i : Nat} {o : Oper} (ho : ops[i]? = some o) {e : Edge} (he : e ∈ o.after) (hbd : Region.binds .any e = true) : e.on < i := by
  simp only [ordB, Bool.and_eq_true, List.all_eq_true, List.mem_range] at hb
  have hi : i < ops.size := (Array.getElem?_eq_some_iff.1 ho).1
  have h1 := hb.2 i hi
  have ho' : ops.toList[i]? = some o := by simpa using ho
  rw [ho'] at h1
  simp only [Bool.and_eq_true, List.all_eq_true] at h1
  have := h1.1 e.on (by unfold preds; exact List.mem_map.2 ⟨e, List.mem_filter.2 ⟨by simpa using he, hbd⟩, rfl⟩)
  simpa using this
theorem ordB_pair (hb : ordB fl ops h = true) {i j : Nat} {o o' : Oper} (ho : ops[i]? = some o) (ho' : ops[j]? = some o') (hji : j < i) :
    ((ancs ops.toList []).getD i 0).testBit j = true ∨ (i < h ∧ o'.apart ops o = true) ∨ (fl = true ∧ j < h ∧ flB ops ops.toList ((ancs ops.toList []).getD j 0) j o' = true ∧ o'.apart ops o = true) := by
  simp only [ordB, Bool.and_eq_true, List.all_eq_true, List.mem_range] at hb
  have hi : i < ops.size := (Array.getElem?_eq_some_iff.1 ho).1
  have h1 := hb.2 i hi
  have ho1 : ops.toList[i]? = some o := by simpa using ho
  have ho2 : ops.toList[j]? = some o' := by simpa using ho'
  rw [ho1] at h1
  simp only [Bool.and_eq_true, List.all_eq_true, List.mem_range] at h1
  have h2 := h1.2 j hji
  rw [ho2] at h2
  simp only [Bool.or_eq_true, Bool.and_eq_true, decide_eq_true_eq] at h2
  rcases h2 with (h2 | h2) | h2
  · exact .inl h2
  · exact .inr (.inl h2)
  · exact .inr (.inr ⟨h2.1.1.1, h2.1.1.2, h2.1.2, h2.2⟩)
theorem flB_flo {l : List Oper} {m j : Nat} {oj : Oper} (hb : flB ops l m j oj = true) : floB oj = true := by
  simp only [flB, Bool.and_eq_true] at hb
  exact hb.1
theorem flB_spec {m j : Nat} {oj : Oper} (hb : flB ops ops.toList m j oj = true) {k : Nat} {ok : Oper} (hk : ops[k]? = some ok) (hne : k ≠ j) : m.testBit k = true ∨ (∃ e ∈ ok.after, Region.binds .any e = true ∧ e.on = j) ∨ oj.apart ops ok = true := by
  simp only [flB, Bool.and_eq_true, List.all_eq_true, List.mem_range] at hb
  have hlt : k < ops.toList.length := by simpa using (Array.getElem?_eq_some_iff.1 hk).1
  have := hb.2 k hlt
  rw [show ops.toList[k]? = some ok by simpa using hk] at this
  simp only [Bool.or_eq_true, beq_iff_eq] at this
  rcases this with (h1 | h1) | h1 | h1
  · exact absurd h1 hne
  · exact .inl h1
  · rw [List.any_eq_true] at h1
    obtain ⟨e, he, h2⟩ := h1
    simp only [Bool.and_eq_true, beq_iff_eq] at h2
    exact .inr (.inl ⟨e, by simpa using he, h2.1, h2.2⟩)
  · exact .inr (.inr h1)
def Closed (ops : Array Oper) (L : Array Bool) : Prop := L.size = ops.size ∧ ∀ (i : Nat) (o : Oper), ops[i]? = some o → L.getD i false = true → ∀ e ∈ o.after, Region.binds .any e = true → L.getD e.on false = true
theorem closed_anc (hb : ordB fl ops h = true) {L : Array Bool} (hc : Closed ops L) : ∀ (i : Nat) (o : Oper), ops[i]? = some o → (∀ e ∈ o.after, Region.binds .any e = true → L.getD e.on false = true) →
    ∀ j, ((ancs ops.toList []).getD i 0).testBit j = true → L.getD j false = true := by
  intro i
  induction i using Nat.strongRecOn with
  | _ i ih =>
    intro o ho hp j hj
    obtain ⟨ms', h1, h2, h3⟩ := ancs_at ops.toList [] i o (by simpa using ho)
    simp only [List.length_nil, Nat.zero_add] at h1 h2 h3
    rw [h1] at hj
    obtain ⟨p, hpm, hjp⟩ := orAll_bit _ _ _ hj
    unfold preds at hpm
    obtain ⟨e, hem, rfl⟩ := List.mem_map.1 hpm
    obtain ⟨he, hbd⟩ := List.mem_filter.1 hem
    have he' : e ∈ o.after := by simpa using he
    have hlt := ordB_pred hb ho he' hbd
    have hl := hp e he' hbd
    rcases hjp with rfl | hjp
    · exact hl
    · rw [h3 _ hlt] at hjp
      have hsz : e.on < ops.size := by
        have : i < ops.size := (Array.getElem?_eq_some_iff.1 ho).1
        omega
      exact ih e.on hlt _ (Array.getElem?_eq_getElem hsz) (hc.2 _ _ (Array.getElem?_eq_getElem hsz) hl) j hjp
theorem ready_pred {L : Array Bool} {i : Nat} (hr : i ∈ Region.ready .any ops L) : ∃ o, ops[i]? = some o ∧ L.getD i true = false ∧ ∀ e ∈ o.after, Region.binds .any e = true → L.getD e.on false = true := by
  obtain ⟨h1, o, h2, h3⟩ := mem_ready.1 hr
  exact ⟨o, h2, h1, h3⟩
theorem getD_two {L : Array Bool} {i : Nat} (hi : i < L.size) (b c : Bool) : L.getD i b = L.getD i c := by
  simp [hi]
theorem closed_set {L : Array Bool} (hc : Closed ops L) {i : Nat} (hr : i ∈ Region.ready .any ops L) : Closed ops (L.setIfInBounds i true) := by
  obtain ⟨o, ho, hu, hp⟩ := ready_pred hr
  have mono : ∀ j, L.getD j false = true → (L.setIfInBounds i true).getD j false = true := by
    intro j hj
    rw [Array.getD_eq_getD_getElem?] at hj ⊢
    rw [Array.getElem?_setIfInBounds]
    split
    · split
      · rfl
      · rename_i h1 h2; subst h1; rw [Array.getElem?_eq_none (by omega)] at hj; cases hj
    · exact hj
  refine ⟨by simpa using hc.1, fun k ok hk hl e he hbd => ?_⟩
  by_cases hik : i = k
  · subst hik
    rw [ho] at hk
    cases hk
    exact mono _ (hp e he hbd)
  · have : L.getD k false = true := by
      rw [Array.getD_eq_getD_getElem?, Array.getElem?_setIfInBounds_ne hik, ← Array.getD_eq_getD_getElem?] at hl
      exact hl
    exact mono _ (hc.2 k ok hk this e he hbd)
theorem ready_of_left (hb : ordB fl ops h = true) {L : Array Bool} (hs : L.size = ops.size) : ∀ (i : Nat), i < ops.size → L.getD i false = false → Region.ready .any ops L ≠ [] := by
  intro i
  induction i using Nat.strongRecOn with
  | _ i ih =>
    intro hi hl
    by_cases hp : ∃ e ∈ (ops[i]).after, Region.binds .any e = true ∧ L.getD e.on false = false
    · obtain ⟨e, he, hbd, hf⟩ := hp
      have hlt := ordB_pred hb (Array.getElem?_eq_getElem hi) he hbd
      exact ih e.on hlt (by omega) hf
    · intro hr
      have : i ∈ Region.ready .any ops L := mem_ready.2 ⟨by rw [getD_two (by omega) true false]; exact hl, ops[i], Array.getElem?_eq_getElem hi, fun e he hbd => by
        cases hq : L.getD e.on false with
        | true => rfl
        | false => exact absurd ⟨e, he, hbd, hq⟩ hp⟩
      rw [hr] at this
      cases this
end
theorem tail_any {ro : Option Nat} {fl : Bool} {P : Program} {ops : Array Oper} {h : Nat} (hb : ordB fl ops h = true) {Q : Exit → Act → World → Prop} : ∀ (l : List Oper) (k fuel : Nat) (L : Array Bool) (a : Act) (w : World), h ≤ k → (∀ j, l[j]? = ops[k + j]?) →
    Closed ops L → (∀ i, i < ops.size → L.getD i false = decide (i < k)) → l.length ≤ fuel → wpListIn (Fn ro) 0 P ops Q l a w → wpAnyIn (Fn ro) 0 P .any ops Q fuel L a w := by
  intro l
  induction l with
  | nil =>
    intro k fuel L a w hk hl hc hL hf hw
    have hsz : ops.size ≤ k := by
      rcases Nat.lt_or_ge k ops.size with h' | h'
      · have := hl 0
        simp [h'] at this
      · exact h'
    have hnone : Region.ready .any ops L = [] := by
      cases hr : Region.ready .any ops L with
      | nil => rfl
      | cons i rest =>
        obtain ⟨o, ho, hu, _⟩ := ready_pred (L := L) (i := i) (by rw [hr]; simp)
        have hi : i < ops.size := (Array.getElem?_eq_some_iff.1 ho).1
        rw [getD_two (by rw [hc.1]; exact hi) true false, hL i hi] at hu
        simp at hu
        omega
    cases fuel with
    | zero => exact ⟨hnone, hw⟩
    | succ fuel => exact ⟨fun _ => hw, fun i hi => by rw [hnone] at hi; cases hi⟩
  | cons o l ih =>
    intro k fuel L a w hk hl hc hL hf hw
    have hok : ops[k]? = some o := by simpa using (hl 0).symm
    have hksz : k < ops.size := (Array.getElem?_eq_some_iff.1 hok).1
    cases fuel with
    | zero => simp at hf
    | succ fuel =>
      refine ⟨fun hn => absurd hn (ready_of_left hb hc.1 k hksz (by rw [hL k hksz]; simp)), fun i hi => ?_⟩
      obtain ⟨oi, hoi, hu, hp⟩ := ready_pred hi
      have hisz : i < ops.size := (Array.getElem?_eq_some_iff.1 hoi).1
      rw [getD_two (by rw [hc.1]; exact hisz) true false, hL i hisz] at hu
      have hki : k ≤ i := by simpa using hu
      have hik : i = k := by
        rcases Nat.lt_or_ge k i with hlt | hge
        · rcases ordB_pair hb hoi hok hlt with hbit | ⟨hbad, _⟩ | ⟨_, hbad, _⟩
          · have := closed_anc hb hc i oi hoi hp k hbit
            rw [hL k hksz] at this
            simp at this
          · omega
          · omega
        · omega
      subst hik
      rw [hok] at hoi
      cases hoi
      unfold wpOpIn
      rw [hok]
      simp only
      have next : ∀ a' w', wpListIn (Fn ro) 0 P ops Q l a' w' → wpAnyIn (Fn ro) 0 P .any ops Q fuel (L.setIfInBounds i true) a' w' := fun a' w' h' =>
        ih (i + 1) fuel _ a' w' (by omega) (fun j => by have := hl (j + 1); simp only [List.getElem?_cons_succ] at this; rw [this]; congr 1; omega) (closed_set hc hi) (fun j hj => by
          rw [Array.getD_eq_getD_getElem?, Array.getElem?_setIfInBounds]
          split
          · rename_i e; subst e; rw [if_pos (by rw [hc.1]; exact hj)]; simp
          · rename_i e
            rw [← Array.getD_eq_getD_getElem?, hL j hj]
            have : (j < i) ↔ (j < i + 1) := by omega
            simp [this]) (by simp at hf; omega) h'
      unfold wpListIn at hw
      split
      · rename_i hwd
        rw [if_pos hwd] at hw
        exact Oper.wpIn_mono next hw
      · rename_i hwd
        rw [if_neg hwd] at hw
        exact ⟨hw.1, next _ _ hw.2⟩
theorem head_any {ro : Option Nat} {fl : Bool} (hro : fl = true → ro = none) {P : Program} {ops : Array Oper} {h : Nat} (hb : ordB fl ops h = true) {Q : Exit → Act → World → Prop} {g : Gh} {β : Bt} {O : Nat → Prop} {H : Hp} {nx : Nat} {n : Nat × Nat × Nat} {f : Nat → Option AV} {rs : List AV}
    (hQ : ∀ c a w, ¬ Q (.panic c) a w) (hlex : Lex P ops H nx n (ops.toList.take h) f rs) (htail : ∀ a w, Cf g β O (foldX (fun _ => true) 0 (ops.toList.take h) rs f) H nx n a w → wpListIn (Fn ro) 0 P ops Q (ops.toList.drop h) a w) :
    ∀ (fuel : Nat) (L : Array Bool) (a : Act) (w : World), Closed ops L → (∀ i, h ≤ i → L.getD i false = false) → ops.size ≤ fuel + (L.toList.countP (· == true)) →
      Cf g β O (foldX (fun i => L.getD i false) 0 (ops.toList.take h) rs f) H nx n a w → wpAnyIn (Fn ro) 0 P .any ops Q fuel L a w := by
  obtain ⟨hlen, hat⟩ := hlex.at 0
  have hle := ordB_le hb
  have hget : ∀ i, i < h → ∀ o, ops[i]? = some o → (ops.toList.take h)[i]? = some o := fun i hi o ho => by
    rw [List.getElem?_take_of_lt hi]; simpa using ho
  intro fuel
  induction fuel with
  | zero =>
    intro L a w hc hhead hcount hcf
    have hall : ∀ i, i < ops.size → L.getD i false = true := by
      intro i hi
      have h1 : L.toList.countP (· == true) = L.toList.length := by
        have := List.countP_le_length (p := (· == true)) (l := L.toList)
        have h2 : L.toList.length = ops.size := by rw [Array.length_toList, hc.1]
        omega
      rw [List.countP_eq_length] at h1
      have hi' : i < L.size := by rw [hc.1]; exact hi
      have := h1 L[i] (by simp)
      rw [Array.getD_eq_getD_getElem?, Array.getElem?_eq_getElem hi']
      simpa using this
    have hh : h = ops.size := by
      rcases Nat.lt_or_ge h ops.size with h' | h'
      · have h1 := hall h h'
        rw [hhead h (Nat.le_refl _)] at h1
        cases h1
      · omega
    refine tail_any hb [] ops.size 0 L a w (by omega) (fun j => by simp) hc (fun i hi => by rw [hall i hi]; simp [hi]) (by simp) ?_
    have := htail a w (by
      rw [foldX_congr (X := fun _ => true) (Y := fun i => L.getD i false) _ _ _ _ (fun i _ hi => by
        rw [hall i (by simp at hi; omega)])]
      exact hcf)
    rwa [List.drop_of_length_le (by simp; omega)] at this
  | succ fuel ih =>
    intro L a w hc hhead hcount hcf
    by_cases hall : ∀ i, i < h → L.getD i false = true
    · -- the head is done: the tail
      have hL : ∀ i, i < ops.size → L.getD i false = decide (i < h) := by
        intro i hi
        by_cases hih : i < h
        · rw [hall i hih]; simp [hih]
        · rw [hhead i (by omega)]; simp [hih]
      have hcnt : L.toList.countP (· == true) ≤ h := by
        have e : L.toList = (L.toList.take h) ++ (L.toList.drop h) := (List.take_append_drop h _).symm
        rw [e, List.countP_append]
        have h1 : (L.toList.take h).countP (· == true) ≤ h := Nat.le_trans (List.countP_le_length) (by rw [List.length_take]; exact Nat.min_le_left _ _)
        have h2 : (L.toList.drop h).countP (· == true) = 0 := by
          rw [List.countP_eq_zero]
          intro x hx
          obtain ⟨i, hi⟩ := List.mem_iff_getElem?.1 hx
          rw [List.getElem?_drop] at hi
          have h3 := hhead (h + i) (by omega)
          rw [Array.getD_eq_getD_getElem?, ← Array.getElem?_toList, hi] at h3
          simpa using h3
        omega
      refine tail_any hb (ops.toList.drop h) h (fuel + 1) L a w (Nat.le_refl _) (fun j => by rw [List.getElem?_drop]; simp) hc hL (by simp; omega) (htail a w ?_)
      rw [foldX_congr (X := fun _ => true) (Y := fun i => L.getD i false) _ _ _ _ (fun i _ hi => by
        rw [hall i (by simp at hi; omega)])]
      exact hcf
    · have hne : ∃ i, i < h ∧ L.getD i false = false := by
        apply Classical.byContradiction
        intro hcon
        exact hall fun i hi => by
          cases hq : L.getD i false with
          | true => rfl
          | false => exact absurd ⟨i, hi, hq⟩ hcon
      obtain ⟨m, hm, hml⟩ := hne
      have see : ∀ i o, i < h → ops[i]? = some o → L.getD i true = false → (∀ e ∈ o.after, Region.binds .any e = true → L.getD e.on false = true) → ∃ r, rs[i]? = some r ∧ dOk n o.dst ∧ Yf P ops H nx o (foldX (fun i => L.getD i false) 0 (ops.toList.take h) rs f) r := by
        intro i o hih ho hu hp
        have hisz : i < ops.size := (Array.getElem?_eq_some_iff.1 ho).1
        have huf : L.getD i false = false := by rw [getD_two (by rw [hc.1]; exact hisz) false true]; exact hu
        obtain ⟨r, hr, hd, hy⟩ := hat i o (hget i hih o ho)
        have hsame : ∀ t, t ∈ o.looksAt ops → foldX (fun j => decide (j < 0 + i)) 0 (ops.toList.take h) rs f t = foldX (fun i => L.getD i false) 0 (ops.toList.take h) rs f t := by
          refine fun t ht => ?_
          refine foldX_at _ _ _ _ _ (fun j oj hj hdst => ?_) rfl
          simp only [Nat.zero_add]
          have hjh : j < h := by
            have := (List.getElem?_eq_some_iff.1 hj).1
            simp at this; omega
          have hoj : ops[j]? = some oj := by
            rw [List.getElem?_take_of_lt hjh] at hj; simpa using hj
          rcases Nat.lt_trichotomy j i with hji | hji | hji
          · have e : decide (j < i) = true := by simpa using hji
            rw [e]
            rcases ordB_pair hb ho hoj hji with hbit | ⟨_, hap⟩ | ⟨_, _, _, hap⟩
            · exact (closed_anc hb hc i o ho hp j hbit).symm
            · exact absurd ht ((Oper.apart_spec hap).1 t hdst)
            · exact absurd ht ((Oper.apart_spec hap).1 t hdst)
          · subst hji
            rw [huf]; simp
          · have e : decide (j < i) = false := by simp; omega
            rw [e]
            cases hq : L.getD j false with
            | false => rfl
            | true =>
              rcases ordB_pair hb hoj ho hji with hbit | ⟨_, hap⟩ | ⟨_, _, _, hap⟩
              · have := closed_anc hb hc j oj hoj (hc.2 j oj hoj hq) i hbit
                rw [huf] at this
                cases this
              · exact absurd ht ((Oper.apart_spec hap).2.2 t hdst)
              · exact absurd ht ((Oper.apart_spec hap).2.2 t hdst)
        exact ⟨r, hr, hd, hy.1.congr hsame, fun hfl => (hy.2 hfl).congr hsame⟩
      have next : ∀ i o r, i < h → ops[i]? = some o → i ∈ Region.ready .any ops L → rs[i]? = some r → ∀ a' w', Cf g β O (updF (foldX (fun i => L.getD i false) 0 (ops.toList.take h) rs f) o.dst r) H nx n a' w' → wpAnyIn (Fn ro) 0 P .any ops Q fuel (L.setIfInBounds i true) a' w' := by
        intro i o r hih ho hi hr a' w' hcf'
        have hisz : i < ops.size := (Array.getElem?_eq_some_iff.1 ho).1
        have hu := (mem_ready.1 hi).1
        have huf : L.getD i false = false := by rw [getD_two (by rw [hc.1]; exact hisz) false true]; exact hu
        refine ih _ a' w' (closed_set hc hi) (fun k hk => ?_) ?_ ?_
        · rw [Array.getD_eq_getD_getElem?, Array.getElem?_setIfInBounds_ne (by omega), ← Array.getD_eq_getD_getElem?]
          exact hhead k hk
        · have hi' : i < L.size := by rw [hc.1]; exact hisz
          have hcnt : (L.setIfInBounds i true).toList.countP (· == true) = L.toList.countP (· == true) + 1 := by
            have hli : L.toList[i]'(by simpa using hi') = false := by
              rw [Array.getD_eq_getD_getElem?, Array.getElem?_eq_getElem hi'] at huf
              simpa using huf
            rw [Array.toList_setIfInBounds, List.countP_set (h := by simpa using hi'), hli]
            simp
          rw [hcnt]; omega
        · have hcong : foldX (fun k => (L.setIfInBounds i true).getD k false) 0 (ops.toList.take h) rs f = foldX (fun k => L.getD k false || k == 0 + i) 0 (ops.toList.take h) rs f := by
            refine foldX_congr _ _ _ _ fun k _ hk => ?_
            rw [Array.getD_eq_getD_getElem?, Array.getElem?_setIfInBounds]
            by_cases hik : i = k
            · subst hik
              rw [if_pos rfl, if_pos (by rw [hc.1]; exact hisz)]
              simp
            · rw [if_neg hik, ← Array.getD_eq_getD_getElem?]
              have : (k == 0 + i) = false := by simp; omega
              rw [this, Bool.or_false]
          rw [hcong, foldX_put _ _ 0 i o r f _ (hget i hih o ho) hr (by simpa using huf) (fun j oj hj hij hX d hdo hdj => ?_)]
          · exact hcf'
          · simp only [Nat.zero_add] at hX
            have hjh : j < h := by
              have := (List.getElem?_eq_some_iff.1 hj).1
              simp at this; omega
            have hoj : ops[j]? = some oj := by
              rw [List.getElem?_take_of_lt hjh] at hj; simpa using hj
            rcases ordB_pair hb hoj ho hij with hbit | ⟨_, hap⟩ | ⟨_, _, _, hap⟩
            · have := closed_anc hb hc j oj hoj (hc.2 j oj hoj hX) i hbit
              rw [huf] at this
              cases this
            · exact (Oper.apart_spec hap).2.1 d hdo hdj
            · exact (Oper.apart_spec hap).2.1 d hdo hdj
      by_cases hfloat : fl = true ∧ ∃ i o, i < h ∧ ops[i]? = some o ∧ i ∈ Region.ready .any ops L ∧ flB ops ops.toList ((ancs ops.toList []).getD i 0) i o = true
      · -- one that does not look at memory: first
        obtain ⟨hflt, i, o, hih, ho, hi, hfb⟩ := hfloat
        obtain ⟨o', ho', hu, hp⟩ := ready_pred hi
        rw [ho] at ho'; cases ho'
        obtain ⟨r, hr, hd, hy, hF⟩ := see i o hih ho hu hp
        have hfo := flB_flo hfb
        obtain ⟨u, hrun, hru⟩ := hF hfo β O w a.eval (fun x _ => hcf.ge x)
        have hwant : Region.wanted o (yielded ops a.tmps) = true := by simp [Region.wanted, floB_guard hfo]
        refine wpAnyIn_first (oi := o) (v := u) (by rw [Fn_round]; exact hro hflt) ho (ordB_sel hb hflt) (fun c a w hq => absurd hq (hQ c _ w)) fuel L a w (fun j oj hj hji hun hno => ?_) hi ⟨.inl ⟨hwant, hrun⟩, fun w => floB_about hfo P w _⟩ ?_
        · rcases flB_spec hfb hj hji with h1 | ⟨e, he, hbd, hon⟩ | h1
          · have h2 := closed_anc hb hc i o ho hp j h1
            rw [getD_two (by rw [hc.1]; exact (Array.getElem?_eq_some_iff.1 hj).1) false true, hun] at h2
            cases h2
          · exact absurd hon (hno e he hbd)
          · exact h1
        · exact next i o r hih ho hi hr _ _ (hcf.put hd hru)
      · refine ⟨fun hn => absurd hn (ready_of_left hb hc.1 m (by omega) hml), fun i hi => ?_⟩
        obtain ⟨o, ho, hu, hp⟩ := ready_pred hi
        have hih : i < h := by
          rcases Nat.lt_or_ge i h with h' | h'
          · exact h'
          · exfalso
            have hleft : ∀ m, m < h → L.getD m false = false → ∃ om, ops[m]? = some om ∧ fl = true ∧ flB ops ops.toList ((ancs ops.toList []).getD m 0) m om = true := by
              intro m hm hml
              have hmo := Array.getElem?_eq_getElem (show m < ops.size by omega)
              rcases ordB_pair hb ho hmo (show m < i by omega) with hbit | ⟨hbad, _⟩ | ⟨h1, _, h2, _⟩
              · have := closed_anc hb hc i o ho hp m hbit
                rw [hml] at this
                cases this
              · omega
              · exact ⟨_, hmo, h1, h2⟩
            have hfirst : ∀ m, m < h → L.getD m false = false → ∃ i o, i < h ∧ ops[i]? = some o ∧ i ∈ Region.ready .any ops L ∧ flB ops ops.toList ((ancs ops.toList []).getD i 0) i o = true := by
              intro m
              induction m using Nat.strongRecOn with
              | _ m ihm =>
                intro hm hml
                obtain ⟨om, hom, _, h2⟩ := hleft m hm hml
                by_cases hp' : ∃ e ∈ om.after, Region.binds .any e = true ∧ L.getD e.on false = false
                · obtain ⟨e, he, hbd, hf'⟩ := hp'
                  have hlt := ordB_pred hb hom he hbd
                  exact ihm e.on hlt (by omega) hf'
                · exact ⟨m, om, hm, hom, mem_ready.2 ⟨by rw [getD_two (by rw [hc.1]; omega) true false]; exact hml, om, hom, fun e he hbd => by
                    cases hq : L.getD e.on false with
                    | true => rfl
                    | false => exact absurd ⟨e, he, hbd, hq⟩ hp'⟩, h2⟩
            obtain ⟨_, _, hflt, _⟩ := hleft m hm hml
            exact hfloat ⟨hflt, hfirst m hm hml⟩
        obtain ⟨r, hr, hd, hy, _⟩ := see i o hih ho hu hp
        have hop : opAt ro P ops Q o (wpAnyIn (Fn ro) 0 P .any ops Q fuel (L.setIfInBounds i true)) a w := hy.opAt hcf hd fun a' w' hcf' => next i o r hih ho hi hr a' w' hcf'
        unfold wpOpIn
        rw [ho]
        exact hop
theorem region_draw {ro : Option Nat} {fl : Bool} (hro : fl = true → ro = none) {P : Program} (hm : P.follows .mixedOrders = true) {ops : Array Oper} {h : Nat} (hb : ordB fl ops h = true) {id : Nat} {Q : Exit → Act → World → Prop} {g : Gh} {β : Bt} {O : Nat → Prop} {H : Hp} {nx : Nat} {n : Nat × Nat × Nat} {f : Nat → Option AV} {rs : List AV}
    (hQ : ∀ c a w, ¬ Q (.panic c) a w) (hlex : Lex P ops H nx n (ops.toList.take h) f rs) (htail : ∀ a w, Cf g β O (foldX (fun _ => true) 0 (ops.toList.take h) rs f) H nx n a w → wpListIn (Fn ro) 0 P ops Q (ops.toList.drop h) a w)
    {a : Act} {w : World} (hc : Cf g β O f H nx n a w) : (Code.region id ops true).wpIn (Fn ro) 0 P Q a w := by
  refine wpIn_region_any hm ?_
  have hdrew : Gr w { w with drawn := w.drawn + 1 } := (Gr.refl _).drew
  have hrep : ∀ i, (Array.replicate ops.size false).getD i false = false := fun i => by
    rw [Array.getD_eq_getD_getElem?]
    simp only [Array.getElem?_replicate]
    split <;> rfl
  refine head_any hro hb hQ hlex htail ops.size _ a _ ⟨by simp, fun i o _ hl => by rw [hrep] at hl; cases hl⟩ (fun i _ => hrep i) (by omega) ?_
  rw [foldX_none _ _ _ _ (fun i _ _ => hrep i)]
  exact hc.gr hdrew
end Go.Ab
set_option linter.unusedVariables false
set_option linter.unusedSimpArgs false
namespace Go.Ab
variable [Dr]
open Go.RowKit
structure St where
  fr : List (Nat × AV)
  hp : Hp
  nx : Nat
  n : Nat × Nat × Nat
def St.ge (σ : St) : Operand → AV := geF (lk σ.fr)
def St.put (σ : St) (d : Option Nat) (r : AV) : St :=
  match d with
  | none => σ
  | some d => { σ with fr := (d, r) :: σ.fr }
abbrev Cn (g : Gh) (β : Bt) (O : Nat → Prop) (σ : St) (a : Act) (w : World) : Prop := Cf g β O (lk σ.fr) σ.hp σ.nx σ.n a w
def hset (H : Hp) (k : Nat) (c : Option (List AV)) : Hp := fun j => bif k == j then c else H j
theorem lk_put (σ : St) (d : Option Nat) (r : AV) : lk (σ.put d r).fr = updF (lk σ.fr) d r := by
  cases d <;> rfl
theorem Cn.put {g : Gh} {β : Bt} {O : Nat → Prop} {σ : St} {a : Act} {w : World} {d : Option Nat} {r : AV} {u : Value} (hd : dOk σ.n d) (hr : R β O w r u) (h : Cn g β O σ a w) : Cn g β O (σ.put d r) (a.put d u) w := by
  have := Cf.put hd hr h
  unfold Cn
  rw [lk_put]
  cases d <;> exact this
def AV.one : AV → Bool
  | .v x => x.oneCell'
  | .ag _ => false
  | .tu _ => false
  | .any => false
  | _ => true
def oneL (cs : List AV) : Bool := cs.all AV.one
theorem R.one {β : Bt} {O : Nat → Prop} {w : World} {a : AV} {u : Value} (h : R β O w a u) (h1 : a.one = true) : u.oneCell' = true := by
  cases a with
  | v x => rw [h.v_inv]; exact h1
  | sl sz n cs =>
    obtain ⟨_, ⟨_, _, _, rfl⟩ | ⟨b, off, cap, _, _, _, rfl, _⟩⟩ := h.sl_inv <;> rfl
  | pt cs i => obtain ⟨b, off, _, _, rfl, _⟩ := h.pt_inv; rfl
  | fn f cs ds => obtain ⟨us, vs, rfl, _⟩ := h.fn_inv; rfl
  | ic t x => obtain ⟨y, rfl, _⟩ := h.ic_inv; rfl
  | lp k off => obtain ⟨b, st, _, rfl⟩ := h.lp_inv; rfl
  | qt cs i => obtain ⟨b, off, _, _, rfl, _⟩ := h.qt_inv; rfl
  | ls k off sz n => rcases h.ls_inv with ⟨_, _, a, rfl, _⟩ | ⟨b, st, cap, _, _, rfl, _⟩ <;> rfl
  | ag cs => simp [AV.one] at h1
  | tu cs => simp [AV.one] at h1
  | any => simp [AV.one] at h1
theorem rs_one {β : Bt} {O : Nat → Prop} {w : World} {cs : List AV} {us : Array Value} (h : Rs β O w cs us) (h1 : oneL cs = true) : ∀ u ∈ us.toList, u.oneCell' = true := by
  intro u hu
  obtain ⟨i, hi⟩ := List.mem_iff_getElem?.1 hu
  have hlt : i < cs.length := by
    have := (List.getElem?_eq_some_iff.1 hi).1
    rw [← h.1]; simpa using this
  obtain ⟨u', g1, g2⟩ := h.2 i cs[i] (List.getElem?_eq_getElem hlt)
  rw [Array.getElem?_toList] at hi
  rw [g1] at hi
  cases hi
  exact g2.one (List.all_eq_true.1 h1 _ (List.getElem_mem hlt))
theorem Cf.step {g : Gh} {β β' : Bt} {O O' : Nat → Prop} {f : Nat → Option AV} {H H' : Hp} {nx nx' : Nat} {n : Nat × Nat × Nat} {a : Act} {w w' : World} (h : Cf g β O f H nx n a w) (ht : Tr O w O' w') (hβ : ∀ k p, β k = some p → β' k = some p)
    (hc : HC g.B0 g.O0 β' O' H' nx' w') (hb : Pr g.B0 O w O' w') : Cf g β' O' f H' nx' n a w' :=
  ⟨h.defers.tr ht, fun t av hf => let ⟨u, h1, h2⟩ := h.fr t av hf; ⟨u, h1, h2.mono ht hβ⟩, h.sz, hc, g.stab _ _ _ _ h.inv ht hb, h.b0.gr ht.size, h.pp, fun k q hq => hβ _ _ (h.prot k q hq), h.tr.trans ht⟩
theorem tr_setRow {O : Nat → Prop} {w : World} {b : Nat} {old new : Array Value} {e : TypeId} (hO : O b) (hb : w.heap[b]? = some (Obj.cells old e (0, 0))) (hs : new.size = old.size) : Tr O w O (w.setRow b new) := by
  refine ⟨by simp, fun k hk ho => ⟨?_, ho⟩, fun k arr e' fz hk => ?_⟩
  · exact setRow_other _ _ _ _ (fun he => ho (he ▸ hO))
  · by_cases he : k = b
    · subst he
      rw [hb] at hk
      cases hk
      exact ⟨new, (0, 0), setRow_heap _ _ _ _ _ _ hb, hs⟩
    · exact ⟨arr, fz, by rw [setRow_other _ _ _ _ he]; exact hk, rfl⟩
theorem RowAt.mono {β β' : Bt} {O O' : Nat → Prop} {w w' : World} {b st : Nat} {c : List AV} (h : RowAt β O w b st c) (ht : Tr O w O' w') (hβ : ∀ k p, β k = some p → β' k = some p) (hb : w'.heap[b]? = w.heap[b]?) : RowAt β' O' w' b st c := by
  obtain ⟨arr, e, h1, h2, h3⟩ := h
  exact ⟨arr, e, by rw [hb]; exact h1, h2, fun j x hj => let ⟨u, a, r⟩ := h3 j x hj; ⟨u, a, r.mono ht hβ⟩⟩
theorem hc_write {B0 : Nat → Prop} {O0 : Nat → Prop} {β : Bt} {O : Nat → Prop} {H : Hp} {nx : Nat} {w : World} (h : HC B0 O0 β O H nx w) {k : Nat} {c c' : List AV} (hk : H k = some c) {b st : Nat} (hβ : β k = some (some (b, st)))
    {old new : Array Value} {e : TypeId} (hb : w.heap[b]? = some (Obj.cells old e (0, 0))) (hs : new.size = old.size) (hst : st + c'.length ≤ new.size)
    (hnew : ∀ (j : Nat) (x : AV), c'[j]? = some x → ∃ u, new[st + j]? = some u ∧ R β O w x u) : HC B0 O0 β O (hset H k (some c')) nx (w.setRow b new) ∧ Tr O w O (w.setRow b new) ∧ Pr B0 O w O (w.setRow b new) := by
  obtain ⟨hO, hB⟩ : O b ∧ ¬ B0 b := by
    rcases h.row k c hk with ⟨h1, _⟩ | ⟨b', st', h1, h2, h3, _⟩
    · rw [hβ] at h1; cases h1
    · rw [hβ] at h1; cases h1; exact ⟨h2, h3⟩
  have ht := tr_setRow hO hb hs
  refine ⟨⟨fun k' c'' hk' => ?_, fun k1 k2 b' s1 s2 h1 h2 h3 h4 => ?_, h.own.tr ht (h.own.1.gr (by simp)), h.base, fun k' hk' => ?_, h.fresh⟩, ht, ⟨rfl, rfl, rfl, .of (Nat.le_refl _), fun k hk => setRow_other _ _ _ _ (fun e => hB (e ▸ hk)), fun _ _ h => h, fun h => h.tr ht (h.1.gr (by simp))⟩⟩
  · unfold hset at hk'
    by_cases he : k = k'
    · subst he
      simp only [BEq.rfl, cond_true, Option.some.injEq] at hk'
      subst hk'
      refine .inr ⟨b, st, hβ, hO, hB, new, e, setRow_heap _ _ _ _ _ _ hb, hst, fun j x hj => ?_⟩
      obtain ⟨u, h1, h2⟩ := hnew j x hj
      exact ⟨u, h1, h2.mono ht (fun _ _ h => h)⟩
    · have : (k == k') = false := by simpa using he
      rw [this, cond_false] at hk'
      rcases h.row k' c'' hk' with h1 | ⟨b', st', h1, h2, h3, h4⟩
      · exact .inl h1
      · refine .inr ⟨b', st', h1, h2, h3, h4.mono ht (fun _ _ h => h) (setRow_other _ _ _ _ fun e => ?_)⟩
        subst e
        exact he (h.inj k k' _ _ _ (by rw [hk]; simp) (by rw [hk']; simp) hβ h1)
  · have dom : ∀ k', hset H k (some c') k' ≠ none → H k' ≠ none := fun k' hk' => by
      unfold hset at hk'
      by_cases he : k = k'
      · subst he; rw [hk]; simp
      · have : (k == k') = false := by simpa using he
        rwa [this, cond_false] at hk'
    exact h.inj k1 k2 b' s1 s2 (dom _ h1) (dom _ h2) h3 h4
  · unfold hset
    have : k ≠ k' := fun e => by rw [← e] at hk'; rw [h.free k hk'] at hk; cases hk
    rw [show (k == k') = false by simpa using this, cond_false]
    exact h.free k' hk'
theorem hc_new {B0 : Nat → Prop} {O0 : Nat → Prop} {β : Bt} {O : Nat → Prop} {H : Hp} {nx : Nat} {w : World} (h : HC B0 O0 β O H nx w) (hB : Bk B0 w) {c : List AV} {arr : Array Value} (e : TypeId) (hl : c.length ≤ arr.size)
    (hc : ∀ (j : Nat) (x : AV), c[j]? = some x → ∃ u, arr[j]? = some u ∧ R β O w x u) :
    HC B0 O0 (fun k => if k = nx then some (some (w.heap.size, 0)) else β k) (fun b => O b ∨ b = w.heap.size) (hset H nx (some c)) (nx + 1) (w.alloc (.cells arr e)) ∧
    Tr O w (fun b => O b ∨ b = w.heap.size) (w.alloc (.cells arr e)) ∧ Pr B0 O w (fun b => O b ∨ b = w.heap.size) (w.alloc (.cells arr e)) ∧ (∀ k p, β k = some p → (fun k => if k = nx then some (some (w.heap.size, 0)) else β k) k = some p) ∧
    (w.alloc (.cells arr e)).heap[w.heap.size]? = some (Obj.cells arr e (0, 0)) := by
  have hg := gr_alloc w (.cells arr e)
  have hget : (w.alloc (.cells arr e)).heap[w.heap.size]? = some (Obj.cells arr e (0, 0)) := by
    show (w.heap.push _)[w.heap.size]? = _
    exact Array.getElem?_push_size
  have hβ : ∀ k p, β k = some p → (if k = nx then some (some (w.heap.size, 0)) else β k) = some p := by
    intro k p hk
    have : k ≠ nx := fun e => by rw [e, h.fresh nx (Nat.le_refl _)] at hk; cases hk
    rw [if_neg this, hk]
  have ht : Tr O w (fun b => O b ∨ b = w.heap.size) (w.alloc (.cells arr e)) := by
    refine ⟨hg.size, fun b hb ho => ⟨hg.block b hb, fun h' => h'.elim ho (fun e => by omega)⟩, fun b arr' e' fz hb => ?_⟩
    have hlt : b < w.heap.size := by
      rcases Nat.lt_or_ge b w.heap.size with h' | h'
      · exact h'
      · simp [Array.getElem?_eq_none h'] at hb
    exact ⟨arr', fz, by rw [hg.block b hlt]; exact hb, rfl⟩
  have hbk : Bk O w → Bk (fun b => O b ∨ b = w.heap.size) (w.alloc (.cells arr e)) := fun h b hb => by
    rcases hb with hb | rfl
    · exact Nat.lt_of_lt_of_le (h b hb) hg.size
    · simp
  have hok : Ok O w → Ok (fun b => O b ∨ b = w.heap.size) (w.alloc (.cells arr e)) := fun h => h.tr ht (hbk h.1)
  refine ⟨⟨fun k c' hk => ?_, fun k1 k2 b s1 s2 h1 h2 h3 h4 => ?_, hok h.own, fun b hb => ⟨.inl (h.base b hb).1, (h.base b hb).2⟩, fun k hk => ?_, fun k hk => ?_⟩, ht, ⟨hg.os, hg.tape, hg.output, hg.drawn, fun b k => hg.block b (hB b k), fun _ _ h => .inl h, hok⟩, hβ, hget⟩
  · unfold hset at hk
    by_cases he : nx = k
    · subst he
      simp only [BEq.rfl, cond_true, Option.some.injEq] at hk
      subst hk
      exact .inr ⟨w.heap.size, 0, by simp, .inr rfl, fun h => Nat.lt_irrefl _ (hB _ h), arr, e, hget, by omega, fun j x hj => by
        obtain ⟨u, h1, h2⟩ := hc j x hj
        exact ⟨u, by rw [Nat.zero_add]; exact h1, h2.mono ht hβ⟩⟩
    · rw [show (nx == k) = false by simpa using he, cond_false] at hk
      rcases h.row k c' hk with h1 | ⟨b, st, h1, h2, h3, h4⟩
      · exact .inl ⟨by show (if _ = _ then _ else _) = _; rw [if_neg (Ne.symm he)]; exact h1.1, h1.2⟩
      · exact .inr ⟨b, st, by show (if _ = _ then _ else _) = _; rw [if_neg (Ne.symm he)]; exact h1, .inl h2, h3, h4.mono ht hβ (hg.block b h4.lt)⟩
  · have old : ∀ k, k ≠ nx → hset H nx (some c) k ≠ none → H k ≠ none := fun k hk h' => by
      unfold hset at h'
      rwa [show (nx == k) = false by simpa using Ne.symm hk, cond_false] at h'
    have blk : ∀ k b st, H k ≠ none → β k = some (some (b, st)) → b < w.heap.size := by
      intro k b st hk hb
      cases hq : H k with
      | none => exact absurd hq hk
      | some c' =>
        rcases h.row k c' hq with ⟨h1, _⟩ | ⟨b', st', h1, _, _, h4⟩
        · rw [hb] at h1; cases h1
        · rw [hb] at h1; cases h1; exact h4.lt
    by_cases e1 : k1 = nx <;> by_cases e2 : k2 = nx
    · rw [e1, e2]
    · subst e1
      simp at h3
      simp only [if_neg e2] at h4
      have := blk k2 b s2 (old k2 e2 h2) h4
      omega
    · subst e2
      simp at h4
      simp only [if_neg e1] at h3
      have := blk k1 b s1 (old k1 e1 h1) h3
      omega
    · simp only [if_neg e1] at h3
      simp only [if_neg e2] at h4
      exact h.inj k1 k2 b s1 s2 (old k1 e1 h1) (old k2 e2 h2) h3 h4
  · unfold hset
    rw [show (nx == k) = false by simp; omega, cond_false]
    exact h.free k (by omega)
  · show (if _ = _ then _ else _) = _
    rw [if_neg (by omega)]
    exact h.fresh k (by omega)
theorem hc_nil {B0 : Nat → Prop} {O0 : Nat → Prop} {β : Bt} {O : Nat → Prop} {H : Hp} {nx : Nat} {w : World} (h : HC B0 O0 β O H nx w) :
    HC B0 O0 (fun k => if k = nx then some none else β k) O (hset H nx (some [])) (nx + 1) w ∧ (∀ k p, β k = some p → (fun k => if k = nx then some none else β k) k = some p) := by
  have hβ : ∀ k p, β k = some p → (if k = nx then some none else β k) = some p := by
    intro k p hk
    have : k ≠ nx := fun e => by rw [e, h.fresh nx (Nat.le_refl _)] at hk; cases hk
    rw [if_neg this, hk]
  refine ⟨⟨fun k c' hk => ?_, fun k1 k2 b s1 s2 h1 h2 h3 h4 => ?_, h.own, h.base, fun k hk => ?_, fun k hk => ?_⟩, hβ⟩
  · unfold hset at hk
    by_cases he : nx = k
    · subst he
      simp only [BEq.rfl, cond_true, Option.some.injEq] at hk
      exact .inl ⟨by simp, hk.symm⟩
    · rw [show (nx == k) = false by simpa using he, cond_false] at hk
      rcases h.row k c' hk with h1 | ⟨b, st, h1, h2, h3, h4⟩
      · exact .inl ⟨by show (if _ = _ then _ else _) = _; rw [if_neg (Ne.symm he)]; exact h1.1, h1.2⟩
      · exact .inr ⟨b, st, by show (if _ = _ then _ else _) = _; rw [if_neg (Ne.symm he)]; exact h1, h2, h3, h4.mono (Tr.refl O w) hβ rfl⟩
  · have old : ∀ k, k ≠ nx → hset H nx (some []) k ≠ none → H k ≠ none := fun k hk h' => by
      unfold hset at h'
      rwa [show (nx == k) = false by simpa using Ne.symm hk, cond_false] at h'
    by_cases e1 : k1 = nx
    · subst e1; simp at h3
    · by_cases e2 : k2 = nx
      · subst e2; simp at h4
      · simp only [if_neg e1] at h3
        simp only [if_neg e2] at h4
        exact h.inj k1 k2 b s1 s2 (old k1 e1 h1) (old k2 e2 h2) h3 h4
  · unfold hset
    rw [show (nx == k) = false by simp; omega, cond_false]
    exact h.free k (by omega)
  · show (if _ = _ then _ else _) = _
    rw [if_neg (by omega)]
    exact h.fresh k (by omega)
theorem hc_drop {B0 : Nat → Prop} {O0 : Nat → Prop} {β : Bt} {O : Nat → Prop} {H : Hp} {nx : Nat} {w : World} (h : HC B0 O0 β O H nx w) (k : Nat) : HC B0 O0 β O (hset H k none) nx w := by
  have dom : ∀ k', hset H k none k' ≠ none → H k' ≠ none := fun k' hk' => by
    unfold hset at hk'
    by_cases he : k = k'
    · subst he; simp at hk'
    · rwa [show (k == k') = false by simpa using he, cond_false] at hk'
  have sub : ∀ k' c, hset H k none k' = some c → H k' = some c := fun k' c hk' => by
    unfold hset at hk'
    by_cases he : k = k'
    · subst he; simp at hk'
    · rwa [show (k == k') = false by simpa using he, cond_false] at hk'
  refine ⟨fun k' c hk' => h.row k' c (sub _ _ hk'), fun k1 k2 b s1 s2 h1 h2 h3 h4 => h.inj k1 k2 b s1 s2 (dom _ h1) (dom _ h2) h3 h4, h.own, h.base, fun k' hk' => ?_, h.fresh⟩
  cases hq : hset H k none k' with
  | none => rfl
  | some c => have := sub _ _ hq; rw [h.free k' hk'] at this; cases this
theorem hc_move {B0 : Nat → Prop} {O0 : Nat → Prop} {β : Bt} {O : Nat → Prop} {H : Hp} {nx : Nat} {w : World} (h : HC B0 O0 β O H nx w) {k : Nat} {c c' : List AV} (hk : H k = some c) {b st st' : Nat} (hβk : β k = some (some (b, st)))
    {old new : Array Value} {e : TypeId} (hb : w.heap[b]? = some (Obj.cells old e (0, 0))) (hs : new.size = old.size) (hst : st' + c'.length ≤ new.size)
    (hnew : ∀ (j : Nat) (x : AV), c'[j]? = some x → ∃ u, new[st' + j]? = some u ∧ R β O w x u) :
    HC B0 O0 (fun j => if j = nx then some (some (b, st')) else β j) O (hset (hset H k none) nx (some c')) (nx + 1) (w.setRow b new) ∧ Tr O w O (w.setRow b new) ∧ Pr B0 O w O (w.setRow b new) ∧
    (∀ j p, β j = some p → (fun j => if j = nx then some (some (b, st')) else β j) j = some p) := by
  obtain ⟨hO, hB⟩ : O b ∧ ¬ B0 b := by
    rcases h.row k c hk with ⟨h1, _⟩ | ⟨b', st', h1, h2, h3, _⟩
    · rw [hβk] at h1; cases h1
    · rw [hβk] at h1; cases h1; exact ⟨h2, h3⟩
  have ht := tr_setRow hO hb hs
  have hβ : ∀ j p, β j = some p → (if j = nx then some (some (b, st')) else β j) = some p := by
    intro j p hj
    have : j ≠ nx := fun e => by rw [e, h.fresh nx (Nat.le_refl _)] at hj; cases hj
    rw [if_neg this, hj]
  have hkn : k ≠ nx := fun e => by rw [e, h.fresh nx (Nat.le_refl _)] at hβk; cases hβk
  have look : ∀ j, j ≠ nx → hset (hset H k none) nx (some c') j = if j = k then none else H j := by
    intro j hj
    unfold hset
    rw [show (nx == j) = false by simpa using Ne.symm hj, cond_false]
    by_cases he : j = k
    · rw [if_pos he, he]; simp
    · rw [if_neg he, show (k == j) = false by simpa using Ne.symm he, cond_false]
  have dom : ∀ j, j ≠ nx → hset (hset H k none) nx (some c') j ≠ none → j ≠ k ∧ H j ≠ none := by
    intro j hj h'
    rw [look j hj] at h'
    by_cases he : j = k
    · rw [if_pos he] at h'; exact absurd rfl h'
    · rw [if_neg he] at h'; exact ⟨he, h'⟩
  refine ⟨⟨fun j c'' hj => ?_, fun k1 k2 b' s1 s2 h1 h2 h3 h4 => ?_, h.own.tr ht (h.own.1.gr (by simp)), h.base, fun j hj => ?_, fun j hj => ?_⟩, ht, ⟨rfl, rfl, rfl, .of (Nat.le_refl _), fun k hk => setRow_other _ _ _ _ (fun e => hB (e ▸ hk)), fun _ _ h => h, fun h => h.tr ht (h.1.gr (by simp))⟩, hβ⟩
  · by_cases he : j = nx
    · subst he
      simp only [hset, BEq.rfl, cond_true, Option.some.injEq] at hj
      subst hj
      refine .inr ⟨b, st', by simp, hO, hB, new, e, setRow_heap _ _ _ _ _ _ hb, hst, fun i x hi => ?_⟩
      obtain ⟨u, g1, g2⟩ := hnew i x hi
      exact ⟨u, g1, g2.mono ht hβ⟩
    · have hne := dom j he (by rw [hj]; simp)
      rw [look j he, if_neg hne.1] at hj
      rcases h.row j c'' hj with g1 | ⟨b', s', g1, g2, g3, g4⟩
      · exact .inl ⟨by show (if _ = _ then _ else _) = _; rw [if_neg he]; exact g1.1, g1.2⟩
      · refine .inr ⟨b', s', by show (if _ = _ then _ else _) = _; rw [if_neg he]; exact g1, g2, g3, g4.mono ht hβ (setRow_other _ _ _ _ fun e => ?_)⟩
        subst e
        exact hne.1 (h.inj j k _ _ _ (by rw [hj]; simp) (by rw [hk]; simp) g1 hβk)
  · by_cases e1 : k1 = nx <;> by_cases e2 : k2 = nx
    · rw [e1, e2]
    · subst e1
      simp only [if_true, Option.some.injEq, Prod.mk.injEq] at h3
      simp only [if_neg e2] at h4
      have := dom k2 e2 h2
      exact absurd (h.inj k2 k b' s2 st this.2 (by rw [hk]; simp) h4 (by rw [hβk, h3.1])) this.1
    · subst e2
      simp only [if_true, Option.some.injEq, Prod.mk.injEq] at h4
      simp only [if_neg e1] at h3
      have := dom k1 e1 h1
      exact absurd (h.inj k1 k b' s1 st this.2 (by rw [hk]; simp) h3 (by rw [hβk, h4.1])) this.1
    · simp only [if_neg e1] at h3
      simp only [if_neg e2] at h4
      exact h.inj k1 k2 b' s1 s2 (dom k1 e1 h1).2 (dom k2 e2 h2).2 h3 h4
  · rw [look j (by omega)]
    split
    · rfl
    · exact h.free j (by omega)
  · show (if _ = _ then _ else _) = _
    rw [if_neg (by omega)]
    exact h.fresh j (by omega)
end Go.Ab
set_option linter.unusedVariables false
set_option linter.unusedSimpArgs false
namespace Go.Ab
variable [Dr]
open Go.RowKit
structure Src (E : Ev) (w : World) (β : Bt) (O : Nat → Prop) (size m : Nat) (cs : List AV) (x : Value) (us : Array Value) : Prop where
  len : ∀ w', (Builtin.lenOf x).run E.P w' = .ok m w'
  cells : ∀ w', (∀ b, b < w.heap.size → w'.heap[b]? = w.heap[b]?) → (Builtin.firstCells size m x).run E.P w' = .ok us w'
  rel : Rs β O w cs us
theorem load_list {E : Ev} {w : World} {b off : Nat} {us : List Value} (h : ∀ (j : Nat) (v : Value), us[j]? = some v → w.cell? ⟨b, off + j, none⟩ = some v) : (loadCells ⟨b, off, none⟩ us.length).run E.P w = .ok us.toArray w :=
  run_loadCells_list (P := E.P) w ⟨b, off, none⟩ us (fun j v hv => by rw [addr_add]; exact h j v hv)
theorem src_block {E : Ev} {w : World} {β : Bt} {O : Nat → Prop} {size m b off cap : Nat} {cs : List AV} (hb : b < w.heap.size) (hl : cs.length = m * size)
    (hc : ∀ (i : Nat) (c : AV), cs[i]? = some c → ∃ x : Value, w.cell? ⟨b, off + i, none⟩ = some x ∧ R β O w c x) : ∃ us, Src E w β O size m cs (.slice (some ⟨b, off, none⟩) m cap) us := by
  obtain ⟨f, hf⟩ := pick_family hc
  let us : List Value := (List.range cs.length).map f
  have hget : ∀ i, i < cs.length → us[i]? = some (f i) := fun i hi => by simp [us, hi]
  have hlen : us.length = m * size := by simp [us, hl]
  refine ⟨us.toArray, fun w' => by simp [Builtin.lenOf], fun w' hw => ?_, ⟨by simp [us], fun i c hi => ?_⟩⟩
  · simp only [Builtin.firstCells]
    have := load_list (E := E) (w := w') (b := b) (off := off) (us := us) (fun j v hv => by
      have hj : j < cs.length := by
        have := (List.getElem?_eq_some_iff.1 hv).1
        simpa [us] using this
      rw [hget j hj] at hv
      cases hv
      rw [World.cell?_of_block (w := w) (a := ⟨b, off + j, none⟩) (hw b hb)]
      exact (hf j cs[j] (List.getElem?_eq_getElem hj)).1)
    rwa [hlen] at this
  · have hj := (List.getElem?_eq_some_iff.1 hi).1
    exact ⟨f i, by simpa using hget i hj, (hf i c hi).2⟩
theorem src_nil {E : Ev} {w : World} {β : Bt} {O : Nat → Prop} {size c : Nat} (a : Option Addr) : Src E w β O size 0 [] (.slice a 0 c) #[] :=
  ⟨fun w' => by simp [Builtin.lenOf], fun w' _ => by
    cases a with
    | none => simp [Builtin.firstCells]
    | some a => simp [Builtin.firstCells, loadCells, loadCellsFrom], ⟨rfl, fun i c h => by simp at h⟩⟩
theorem run_choose_cap (P : Program) (w : World) (need old : Nat) (e : TypeId) (h : need < 2 ^ 63) : ∃ c, need ≤ c ∧ (choose (.appendCap need old e)).run P w = .ok c w.drew := by
  refine ⟨need + w.tape w.drawn (.appendCap need old e) % (2 ^ 63 - need), Nat.le_add_right _ _, ?_⟩
  simp [choose, Sem.run, Question.forced, Question.cut]
theorem run_askRoom (P : Program) (w : World) (n : Nat) : (askRoom n).run P w = .ok () w := by
  unfold askRoom mark
  split <;> rfl
theorem run_append_fits {E : Ev} (hE : EvOk E) {t t' e : TypeId} {ti ti' ei : TI} (ht : E.T t = some ti) (hk : ti.kind = .slice e) (he : E.T e = some ei) (ht' : E.T t' = some ti') (hk' : ∃ e', ti'.kind = .slice e')
    {w : World} {β : Bt} {O : Nat → Prop} {n m cap b st : Nat} {cs : List AV} {x : Value} {us : Array Value} (hs : Src E w β O ei.size m cs x us) (hfit : n + m ≤ cap)
    {old : Array Value} {et : TypeId} (hb : w.heap[b]? = some (Obj.cells old et (0, 0))) (hroom : st + n * ei.size + us.size ≤ old.size) (h1 : ∀ u ∈ us.toList, u.oneCell' = true) (ty : TypeId) :
    (Builtin.append_ #[t, t'] ty #[.slice (some ⟨b, st, none⟩) n cap, x]).run E.P w =
      .ok (.slice (some ⟨b, st, none⟩) (n + m) cap) (w.setRow b (old.toList.take (st + n * ei.size) ++ us.toList ++ old.toList.drop (st + n * ei.size + us.toList.length)).toArray) := by
  have hu := run_und_slice hE.T ht hk w
  obtain ⟨e', hk'⟩ := hk'
  have hu' := run_und_slice hE.T ht' hk' w
  have hz := run_size hE.T he w
  have hl := hs.len w
  have hc := hs.cells w (fun _ _ => rfl)
  have hst := run_storeCells_at (P := E.P) b (st + n * ei.size) et us.toList 0 old w hb (by simp; omega) h1
  simp only [Nat.add_zero] at hst
  simp [Builtin.append_, hu, hu', hz, hl, hc, hfit, addr_add, hst]
theorem run_append_grows {E : Ev} (hE : EvOk E) {t t' e : TypeId} {ti ti' ei : TI} (ht : E.T t = some ti) (hk : ti.kind = .slice e) (he : E.T e = some ei) (ht' : E.T t' = some ti') (hk' : ∃ e', ti'.kind = .slice e')
    {w : World} {β : Bt} {O : Nat → Prop} {n m cap : Nat} {cs ds : List AV} {base : Option Addr} {x : Value} {us vs : Array Value} (hs : Src E w β O ei.size m cs x us) (ho : Src E w β O ei.size n ds (.slice base n cap) vs) (hgrow : ¬ n + m ≤ cap)
    (hbytes : (n + m) * ei.bytes ≤ 140737488355328) (hnm : n + m ≤ 140737488355328) (ty : TypeId) :
    ∃ c rest, n + m ≤ c ∧ rest.size = (c - (n + m)) * ei.size ∧ (Builtin.append_ #[t, t'] ty #[.slice base n cap, x]).run E.P w =
      .ok (.slice (some ⟨w.heap.size, 0, none⟩) (n + m) c) (w.drew.alloc (.cells (vs ++ us ++ rest) e)) := by
  have hu := run_und_slice hE.T ht hk w
  obtain ⟨e', hk'⟩ := hk'
  have hu' := run_und_slice hE.T ht' hk' w
  have hz := run_size hE.T he w
  have hl := hs.len w
  obtain ⟨inf, i1, i2, i3⟩ := run_info hE.T he w
  have i4 : (typeInfo e).run E.P w.drew = .ok inf w.drew := by
    obtain ⟨inf', j1, j2, j3⟩ := run_info hE.T he w.drew
    have : inf' = inf := by
      simp only [typeInfo, program, Sem.run_bind, Sem.run, Result.andThen_ok] at i1 j1
      cases hq : E.P.info? e with
      | none => simp [hq, stuck] at i1
      | some q => simp [hq] at i1 j1; rw [← i1, ← j1]
    rw [← this]; exact j1
  obtain ⟨c, hc1, hc2⟩ := run_choose_cap E.P w (n + m) cap e (by omega)
  have hcs := hs.cells w.drew (fun _ _ => rfl)
  have hco := ho.cells w.drew (fun _ _ => rfl)
  obtain ⟨z, z1, z2, z3⟩ := run_zero hE.T he w.drew
  have hbig : ¬ (Builtin.nextslicecap (n + m) cap * inf.bytes > 2 ^ 48) := by
    have := growslice_fits (need := n + m) (old := cap) (bytes := inf.bytes) (by omega) (by rw [i3]; exact hbytes)
    omega
  have hno : ¬ (((n + m : Nat) : Int) > IntKind.i64.max) := by
    simp [IntKind.max, IntKind.signed, IntKind.bits]; omega
  refine ⟨c, Builtin.zeroCells z.cells (c - (n + m)), hc1, by simp [Builtin.zeroCells, z3], ?_⟩
  have hcond : ¬ (((n + m : Nat) : Int) > IntKind.i64.max ∧ inf.bytes = 0) := fun h => hno h.1
  simp only [Builtin.append_, Sem.run_bind, List.getElem?_toArray, List.getElem?_cons_zero, List.getElem?_cons_succ, hu, hu', Result.andThen_ok, hz, Sem.run_pure, if_false, hl, if_neg hgrow, Sem.run_ite, Bool.not_false, if_true]
  simp only [Bool.false_eq_true, if_false, hl, Result.andThen_ok, if_neg hgrow, false_or, i1, if_neg hcond, if_neg hbig, hc2, i4, run_askRoom, hco, hcs, z1]
  simp [newRow]
end Go.Ab
set_option linter.unusedSimpArgs false
set_option linter.unusedVariables false
namespace Go.Ab
variable [Dr]
open Go.RowKit
def inMu (mu : List Nat) (d : Option Nat) : Bool :=
  match d with
  | some d => mu.elem d
  | none => false
def isMut (mu : List Nat) (o : Oper) : Bool :=
  match o.op with
  | .store _ _ _ => true
  | .alloc _ => inMu mu o.dst
  | .box _ _ => inMu mu o.dst
  | .buildSlice _ _ _ => inMu mu o.dst
  | .makeSlice _ _ _ => inMu mu o.dst
  | .assign (.const (.slice none 0 0)) => inMu mu o.dst
  | .slice _ _ _ _ _ => inMu mu o.dst
  | .binOp .eql _ _ (.const (.slice none 0 0)) _ => true
  | .call c => match c.callee with
    | .builtin .append => true
    | .builtin .copy => true
    | .builtin _ => false
    | .value _ => inMu mu o.dst
    | .invoke _ _ => false
  | _ => false
def elems (H : Hp) (x : AV) (K : Nat → List AV → Prop) : Prop :=
  match x with
  | .sl sz m cs => K m cs
  | .ls k off sz m => match H k with
    | some c => off + m * sz ≤ c.length ∧ K m ((c.drop off).take (m * sz))
    | none => False
  | .v (.slice none 0 0) => K 0 []
  | _ => False
def newRow (σ : St) (d : Option Nat) (c : List AV) (r : Nat → AV) : St := { σ with hp := hset σ.hp σ.nx (some c), nx := σ.nx + 1 }.put d (r σ.nx)
def appendA (E : Ev) (σ : St) (d : Option Nat) (t t' : TypeId) (s x : AV) (K : St → Prop) : Prop :=
  match E.T t, E.T t' with
  | some ti, some ti' =>
    match ti.kind, ti'.kind with
    | .slice e, .slice e' =>
      match E.T e, s with
      | some ei, .ls k off sz n =>
        match σ.hp k with
        | some c =>
          sz = ei.size ∧ off + n * sz ≤ c.length ∧ elems σ.hp x fun m cs => cs.length = m * sz ∧ oneL ((c.drop off).take (n * sz)) = true ∧ oneL cs = true ∧ (n + m) * ei.bytes ≤ 140737488355328 ∧ n + m ≤ 140737488355328 ∧
            K (newRow { σ with hp := hset σ.hp k none } d ((c.drop off).take (n * sz) ++ cs) fun j => .ls j 0 sz (n + m))
        | none => False
      | _, _ => False
    | _, _ => False
  | _, _ => False
def CallM (P : Program) (f : FuncId) (H : Hp) (nx : Nat) (avs : List AV) (K : AV → Hp → Nat → Prop) : Prop :=
  Callable P f ∧ ∀ (g : Gh) (β : Bt) (O : Nat → Prop) (w : World) (vs : Array Value), HC g.B0 g.O0 β O H nx w → Bk g.B0 w → Rs β O w avs vs →
    Calls P f vs w (fun e w' => ∃ u r H' nx' β' O', e = .returned u ∧ K r H' nx' ∧ HC g.B0 g.O0 β' O' H' nx' w' ∧ Pr g.B0 O w O' w' ∧ R β' O' w' r u ∧ Tr O w O' w' ∧ (∀ k p, β k = some p → β' k = some p))
@[congr] theorem CallM_congr {P : Program} {f : FuncId} {H : Hp} {nx : Nat} {avs avs' : List AV} {K : AV → Hp → Nat → Prop} (h : avs = avs') : CallM P f H nx avs K = CallM P f H nx avs' K := by rw [h]
def cmK (σ : St) (d : Option Nat) (K : St → Prop) (r : AV) (H' : Hp) (nx' : Nat) : Prop := K ({ σ with hp := H', nx := nx' }.put d r)
def yldA (E : Ev) (σ : St) (d : Option Nat) (l : Nat) (us vs : Array Value) (avs : List AV) (K : St → Prop) : Prop :=
  match E.Y with
  | some y => l = y.l ∧ us = #[] ∧ vs = #[] ∧ y.ys σ.n.2.2 = some avs ∧ plainL avs = true ∧ K (({ σ with n := (σ.n.1, σ.n.2.1, σ.n.2.2 + 1) } : St).put d (.v (.bool (y.an σ.n.2.2))))
  | none => False
def mop (E : Ev) (o : Oper) (σ : St) (K : St → Prop) : Prop :=
  match o.op with
  | .store t a x => match E.T t, σ.ge a, (σ.ge x).cells? with
    | some ti, .lp k off, some cs => match σ.hp k with
      | some c => cs.length = ti.size ∧ oneL cs = true ∧ off + cs.length ≤ c.length ∧ K ({ σ with hp := hset σ.hp k (some (splice c off cs)) }.put o.dst (.v undef))
      | none => False
    | _, _, _ => False
  | .alloc e => match E.T e with
    | some ti => match ti.zero.cells? with
      | some zs => K (newRow σ o.dst zs fun j => .lp j 0)
      | none => False
    | none => False
  | .box _ x => match (σ.ge x).cells? with
    | some cs => K (newRow σ o.dst cs fun j => .lp j 0)
    | none => False
  | .buildSlice t len parts => buildSlA E.T t len (parts.toList.map fun p => (p.1, σ.ge p.2)) fun cs sz => K (newRow σ o.dst cs fun j => .ls j 0 sz len)
  | .makeSlice t len cap => makeSlA E.T t (σ.ge len) (σ.ge cap) fun cs sz n => K (newRow σ o.dst cs fun j => .ls j 0 sz n)
  | .assign (.const (.slice none 0 0)) => match E.T o.type with
    | some ti => match ti.kind with
      | .slice e => match E.T e with
        | some ei => K (newRow σ o.dst [] fun j => .ls j 0 ei.size 0)
        | none => False
      | _ => False
    | none => False
  | .slice t x none (some (.const (.int .i64 0))) (some (.const (.int .i64 0))) => match E.T t with
    | some ti => match ti.kind, σ.ge x with
      | .slice e, .sl sz n cs => match E.T e with
        | some ei => K (newRow σ o.dst [] fun j => .ls j 0 ei.size 0)
        | none => False
      | _, _ => False
    | none => False
  | .binOp .eql t x (.const (.slice none 0 0)) _ => match E.T t, σ.ge x with
    | some ti, .sl _ n _ => match ti.kind with
      | .slice _ => (n = 0 → K (σ.put o.dst (.v (.bool true)))) ∧ K (σ.put o.dst (.v (.bool false)))
      | _ => False
    | _, _ => False
  | .call c => match c with
    | { callee := .builtin .append, args := args, argTypes := ts } => match args.toList, ts.toList with
      | [s, x], [t, t'] => appendA E σ o.dst t t' (σ.ge s) (σ.ge x) K
      | _, _ => False
    | { callee := .value f, args := args, .. } => match σ.ge f with
      | .fn (.func fid) first captured => CallM E.P fid σ.hp σ.nx (first ++ args.toList.map σ.ge ++ captured) (cmK σ o.dst K)
      | .v (.func (.yield l) us vs) => yldA E σ o.dst l us vs (args.toList.map σ.ge) K
      | _ => False
    | _ => False
  | _ => False
section
variable {E : Ev} {o : Oper} {σ : St} {K : St → Prop} {g : Gh} {β : Bt} {O : Nat → Prop} {a : Act} {w : World} {Q : Exit → Act → World → Prop}
abbrev MOk (E : Ev) (o : Oper) (n : Nat × Nat × Nat) (K : St → Prop) (g : Gh) (a : Act) (w : World) (Q : Exit → Act → World → Prop) : Prop :=
  o.wpIn (Fn E.ro) 0 E.P a w (fun a' w' => ∃ β' O' σ', K σ' ∧ σ'.n = n ∧ Cn g β' O' σ' a' w') Q
theorem put_n (σ : St) (d : Option Nat) (r : AV) : (σ.put d r).n = σ.n := by cases d <;> rfl
theorem newRow_n (σ : St) (d : Option Nat) (c : List AV) (r : Nat → AV) : (newRow σ d c r).n = σ.n := put_n _ _ _
theorem mok_value {n : Nat × Nat × Nat} {u : Value} {w' : World} (hrun : (execOp a.eval o).run E.P w = .ok (.value u) w') (h : ∃ β' O' σ', K σ' ∧ σ'.n = n ∧ Cn g β' O' σ' (a.put o.dst u) w') : MOk E o n K g a w Q := by
  refine wpIn_run ?_
  rw [hrun]
  exact h
theorem newRow_cn {β' : Bt} {O' : Nat → Prop} {σ' : St} {c : List AV} {r : Nat → AV} {a' : Act} {w' : World} {d : Option Nat} :
    Cn g β' O' (newRow σ' d c r) a' w' ↔ Cf g β' O' (updF (lk σ'.fr) d (r σ'.nx)) (hset σ'.hp σ'.nx (some c)) (σ'.nx + 1) σ'.n a' w' := by
  unfold newRow Cn
  rw [lk_put]
  cases d <;> exact Iff.rfl
theorem new_ok (h : Cn g β O σ a w) (hd : dOk σ.n o.dst) {c : List AV} {arr : Array Value} {e : TypeId} (hl : c.length ≤ arr.size) (hc : ∀ (j : Nat) (x : AV), c[j]? = some x → ∃ u, arr[j]? = some u ∧ R β O w x u)
    {r : Nat → AV} {u : Value} (hr : ∀ (β' : Bt) (O' : Nat → Prop), β' σ.nx = some (some (w.heap.size, 0)) → (w.alloc (.cells arr e)).heap[w.heap.size]? = some (Obj.cells arr e (0, 0)) → R β' O' (w.alloc (.cells arr e)) (r σ.nx) u)
    (hrun : (execOp a.eval o).run E.P w = .ok (.value u) (w.alloc (.cells arr e))) (hK : K (newRow σ o.dst c r)) : MOk E o σ.n K g a w Q := by
  obtain ⟨h1, h2, hp, h3, h4⟩ := hc_new h.hc h.b0 e hl hc
  have hs := h.step h2 h3 h1 hp
  have := Cf.put (d := o.dst) hd (hr _ _ (by simp) h4) hs
  refine mok_value hrun ⟨_, _, _, hK, newRow_n _ _ _ _, (newRow_cn (c := c) (r := r)).2 this⟩
theorem nil_ok (h : Cn g β O σ a w) (hd : dOk σ.n o.dst) {sz : Nat} {ad : Option Addr} (had : True) (hrun : (execOp a.eval o).run E.P w = .ok (.value (.slice ad 0 0)) w) (hK : K (newRow σ o.dst [] fun j => .ls j 0 sz 0)) : MOk E o σ.n K g a w Q := by
  obtain ⟨h1, h2⟩ := hc_nil h.hc
  have hs := h.step (Tr.refl O w) h2 h1 (Pr.refl _ _ _)
  have := Cf.put (d := o.dst) hd (r := .ls σ.nx 0 sz 0) (.lsn _ _ _ ad (by simp) had) hs
  refine mok_value hrun ⟨_, _, _, hK, newRow_n _ _ _ _, (newRow_cn (c := []) (r := fun j => .ls j 0 sz 0)).2 this⟩
theorem store_ok (hE : EvOk E) {t : TypeId} {ad x : Operand} (ho : o.op = .store t ad x) (hd : dOk σ.n o.dst) (hc : Cn g β O σ a w) (h : mop E o σ K) : MOk E o σ.n K g a w Q := by
  simp only [mop, ho] at h
  split at h
  · rename_i ti k off cs ht ha hx
    split at h
    · rename_i c hk
      obtain ⟨hl, h1, hle, hK⟩ := h
      have ha' : R β O w (.lp k off) (a.eval ad) := ha ▸ hc.ge ad
      obtain ⟨b, st, hb, hav⟩ := ha'.lp_inv
      have hxr : Rs β O w cs (a.eval x).cells := (hc.ge x).cells hx
      rcases hc.hc.row k c hk with ⟨hn, _⟩ | ⟨b', st', hb', _, _, old, e, hold, hst, hcell⟩
      · rw [hb] at hn; cases hn
      · rw [hb] at hb'; cases hb'
        have hsz := run_size hE.T ht w
        have hxl : (a.eval x).cells.toList.length = cs.length := by simpa using hxr.1
        have hstore := run_storeCells_at (P := E.P) b (st + off) e (a.eval x).cells.toList 0 old w hold (by rw [hxl]; omega) (rs_one hxr h1)
        simp only [Nat.add_zero] at hstore
        let new : Array Value := (old.toList.take (st + off) ++ (a.eval x).cells.toList ++ old.toList.drop (st + off + (a.eval x).cells.toList.length)).toArray
        have hnsz : new.size = old.size := by
          simp only [new, List.size_toArray, List.length_append, List.length_take, List.length_drop, hxl, Array.length_toList]
          omega
        have hget : ∀ j, new[j]? = if st + off ≤ j ∧ j < st + off + cs.length then (a.eval x).cells[j - (st + off)]? else old[j]? := by
          intro j
          simp only [new, List.getElem?_toArray, List.append_assoc]
          rw [List.getElem?_append]
          have hl1 : (old.toList.take (st + off)).length = st + off := by simp; omega
          rw [hl1]
          split
          · rw [if_neg (by omega), List.getElem?_take_of_lt (by omega)]; simp
          · rw [List.getElem?_append, hxl]
            split
            · rw [if_pos (by omega)]; simp
            · rw [if_neg (by omega), List.getElem?_drop]; simp; congr 1; omega
        obtain ⟨w1, w2, w3⟩ := hc_write hc.hc hk hb hold (c' := splice c off cs) (new := new) hnsz (by rw [splice_length hle, hnsz]; exact hst) (fun j y hj => by
          rw [splice_get hle] at hj
          rw [hget]
          split at hj
          · rename_i hh
            rw [if_pos (by omega), show st + j - (st + off) = j - off by omega]
            exact hxr.2 _ _ hj
          · rename_i hh
            rw [if_neg (by omega)]
            exact hcell j y hj)
        have hrun : (execOp a.eval o).run E.P w = .ok .skip (w.setRow b new) := by
          have hne : ¬ ((a.eval x).cells.size ≠ ti.size) := by rw [hxr.1, hl]; simp
          simp only [execOp, ho, Instr.storeAt, hav, Instr.sureAddr, storeVar, Sem.run_bind, Sem.run_pure, Result.andThen_ok, hsz, Sem.run_ite, if_neg hne, hstore]
          rfl
        refine wpIn_run ?_
        rw [hrun]
        refine ⟨β, O, _, hK, put_n _ _ _, ?_⟩
        have hs := hc.step w2 (fun _ _ h => h) w1 w3
        have := Cf.put (d := o.dst) hd (R.vv undef) hs
        unfold Cn
        rw [lk_put]
        cases hdd : o.dst <;> rw [hdd] at this <;> exact this
    · exact h.elim
  · exact h.elim
theorem elems_src (hE : EvOk E) (hc : Cn g β O σ a w) {x : AV} {u : Value} {sz : Nat} (hx : R β O w x u) {K : Nat → List AV → Prop} (h : elems σ.hp x K) :
    ∃ m cs, K m cs ∧ (cs.length = m * sz → ∃ us, Src E w β O sz m cs u us) := by
  unfold elems at h
  split at h
  · rename_i sz' m cs
    refine ⟨m, cs, h, fun hl => ?_⟩
    obtain ⟨_, ⟨rfl, rfl, ad, rfl⟩ | ⟨b, off, cap, hO, hb, hn, rfl, hcell⟩⟩ := hx.sl_inv
    · exact ⟨_, src_nil ad⟩
    · exact src_block hb hl fun i c hi => let ⟨y, p, q⟩ := hcell i c hi; ⟨y, p, .pl _ _ q⟩
  · rename_i k off sz' m
    split at h
    · rename_i c hk
      obtain ⟨hle, h⟩ := h
      refine ⟨m, _, h, fun hl => ?_⟩
      rcases hx.ls_inv with ⟨h1, rfl, ad, rfl, _⟩ | ⟨b, st, cap, h1, hn, rfl, _⟩
      · simp only [Nat.zero_mul, List.take_zero]
        exact ⟨_, src_nil ad⟩
      · rcases hc.hc.row k c hk with ⟨g1, _⟩ | ⟨b', st', g1, _, _, hrow⟩
        · rw [h1] at g1; cases g1
        · rw [h1] at g1; cases g1
          refine src_block hrow.lt hl fun i y hi => ?_
          rw [List.getElem?_take] at hi
          split at hi
          · rw [List.getElem?_drop] at hi
            rw [Nat.add_assoc]
            exact hrow.cell hi
          · cases hi
    · exact h.elim
  · refine ⟨0, [], h, fun _ => ?_⟩
    rw [hx.v_inv]
    exact ⟨_, src_nil none⟩
  · exact h.elim
theorem append_ok (hE : EvOk E) {s x : Operand} {t t' : TypeId} (ho : o.op = .call { callee := .builtin .append, args := #[s, x], argTypes := #[t, t'] }) (hd : dOk σ.n o.dst) (hc : Cn g β O σ a w) (h : appendA E σ o.dst t t' (σ.ge s) (σ.ge x) K) : MOk E o σ.n K g a w Q := by
  unfold appendA at h
  split at h
  · rename_i ti ti' ht ht'
    split at h
    · rename_i e e' hk hk'
      split at h
      · rename_i ei k off sz n he hs
        split at h
        · rename_i c hkc
          obtain ⟨rfl, hle, h⟩ := h
          obtain ⟨m, cs, ⟨hl, ho1, ho2, hby, hnm, hK⟩, hsrc⟩ := elems_src (sz := ei.size) hE hc (hc.ge x) h
          obtain ⟨us, hsrc⟩ := hsrc hl
          have hexec : (execOp a.eval o).run E.P w = ((Builtin.append_ #[t, t'] o.type #[a.eval s, a.eval x]).run E.P w).andThen fun v w' => .ok (.value v) w' := by
            simp [execOp, ho, resolve, invoke, builtin]
          have hsr : R β O w (.ls k off ei.size n) (a.eval s) := hs ▸ hc.ge s
          have hdl : ((c.drop off).take (n * ei.size)).length = n * ei.size := by simp; omega
          have hcontent : ((c.drop off).take (n * ei.size) ++ cs).length = (n + m) * ei.size := by rw [List.length_append, hdl, hl, Nat.add_mul]
          obtain ⟨ds_n, ds, ⟨e1, e2⟩, hold⟩ := elems_src (E := E) (σ := σ) (x := .ls k off ei.size n) (sz := ei.size) (K := fun m' ds => m' = n ∧ ds = (c.drop off).take (n * ei.size)) hE hc hsr (by simp only [elems, hkc, and_self, and_true]; exact hle)
          subst e1 e2
          obtain ⟨vs, hold⟩ := hold hdl
          have hgrow : ∀ (base : Option Addr) (cap : Nat), a.eval s = .slice base ds_n cap → ¬ ds_n + m ≤ cap → MOk E o σ.n K g a w Q := by
            intro base cap hv hng
            rw [hv] at hold
            obtain ⟨c', rest, hc1, hrs, hrun⟩ := run_append_grows hE ht hk he ht' ⟨e', hk'⟩ hsrc hold hng hby hnm o.type
            have hcd : Cn g β O { σ with hp := hset σ.hp k none } a w.drew := by
              have h1 := hc.gr (w' := w.drew) ((Gr.refl _).drew)
              exact ⟨h1.defers, h1.fr, h1.sz, hc_drop h1.hc k, h1.inv, h1.b0, h1.pp, h1.prot, h1.tr⟩
            have hrel : Rs β O w ((c.drop off).take (ds_n * ei.size) ++ cs) (vs ++ us) := rs_append hold.rel hsrc.rel
            have hsz : (vs ++ us ++ rest).size = c' * ei.size := by
              rw [Array.size_append, hrel.1, hcontent, hrs, ← Nat.add_mul]; congr 1; omega
            have hrun' : (execOp a.eval o).run E.P w = .ok (.value (.slice (some ⟨w.heap.size, 0, none⟩) (ds_n + m) c')) (w.drew.alloc (.cells (vs ++ us ++ rest) e)) := by
              rw [hexec, hv, hrun]; rfl
            obtain ⟨h1, h2, hp, h3, h4⟩ := hc_new (c := (c.drop off).take (ds_n * ei.size) ++ cs) (arr := vs ++ us ++ rest) hcd.hc hcd.b0 e (by rw [hsz, hcontent]; exact Nat.mul_le_mul_right _ hc1) (fun j y hj => by
              obtain ⟨u, p, q⟩ := hrel.2 j y hj
              have hj' : j < (vs ++ us).size := (Array.getElem?_eq_some_iff.1 p).1
              exact ⟨u, by rw [Array.getElem?_append_left hj']; exact p, q.gr ((Gr.refl _).drew)⟩)
            have hst := hcd.step h2 h3 h1 hp
            have := Cf.put (d := o.dst) hd (r := .ls σ.nx 0 ei.size (ds_n + m)) (u := .slice (some ⟨w.heap.size, 0, none⟩) (ds_n + m) c') (.ls _ _ _ _ w.heap.size 0 c' (if_pos rfl) hc1 ⟨_, _, _, h4, by rw [hsz]; omega⟩) hst
            exact mok_value hrun' ⟨_, _, _, hK, newRow_n _ _ _ _, newRow_cn.2 this⟩
          rcases hsr.ls_inv with ⟨h1, rfl, ad, hv, had⟩ | ⟨b, st, cap, hb, hn, hv, arr0, e0, fz0, harr, hcap⟩
          · -- no block yet
            by_cases hm : m = 0
            · subst hm
              have hcs : cs = [] := List.length_eq_zero_iff.1 (by simpa using hl)
              subst hcs
              have hrun : (execOp a.eval o).run E.P w = .ok (.value (.slice ad 0 0)) w := by
                have hu := run_und_slice hE.T ht hk w
                have hu' := run_und_slice hE.T ht' hk' w
                have hz := run_size hE.T he w
                have hl' := hsrc.len w
                have hc' := hsrc.cells w (fun _ _ => rfl)
                have hus : us = #[] := by
                  have := hsrc.rel.1
                  simpa using this
                subst hus
                rw [hexec, hv]
                cases ad with
                | none => simp [Builtin.append_, hu, hu', hz, hl', hc']
                | some ad => simp [Builtin.append_, hu, hu', hz, hl', hc', storeCells]
              have hcd : Cn g β O { σ with hp := hset σ.hp k none } a w := ⟨hc.defers, hc.fr, hc.sz, hc_drop hc.hc k, hc.inv, hc.b0, hc.pp, hc.prot, hc.tr⟩
              refine nil_ok (σ := { σ with hp := hset σ.hp k none }) (sz := ei.size) hcd hd had hrun ?_
              simpa using hK
            · exact hgrow ad 0 hv (by omega)
          · by_cases hfit : ds_n + m ≤ cap
            · rcases hc.hc.row k c hkc with ⟨g1, _⟩ | ⟨b', st', g1, hO, hB, old, e1, hold1, hst1, hcell⟩
              · rw [hb] at g1; cases g1
              · rw [hb] at g1; cases g1
                rw [harr] at hold1
                simp only [Option.some.injEq, Obj.cells.injEq] at hold1
                obtain ⟨hq1, hq2, hq3⟩ := hold1
                rw [hq1, hq2, hq3] at harr
                rw [hq1] at hcap
                clear hq1 hq2 hq3
                have husz : us.size = m * ei.size := by rw [hsrc.rel.1, hl]
                have hmul : ds_n * ei.size + m * ei.size ≤ cap * ei.size := by rw [← Nat.add_mul]; exact Nat.mul_le_mul_right _ hfit
                have hroom : st + off + ds_n * ei.size + us.size ≤ old.size := by rw [husz]; omega
                have hrun := run_append_fits hE ht hk he ht' ⟨e', hk'⟩ hsrc (b := b) (st := st + off) hfit harr hroom (rs_one hsrc.rel ho2) o.type
                have hul : us.toList.length = cs.length := by simpa using hsrc.rel.1
                let new : Array Value := (old.toList.take (st + off + ds_n * ei.size) ++ us.toList ++ old.toList.drop (st + off + ds_n * ei.size + us.toList.length)).toArray
                have hnsz : new.size = old.size := by
                  simp only [new, List.size_toArray, List.length_append, List.length_take, List.length_drop, Array.length_toList]
                  omega
                have hget : ∀ j, new[j]? = if st + off + ds_n * ei.size ≤ j ∧ j < st + off + ds_n * ei.size + cs.length then us[j - (st + off + ds_n * ei.size)]? else old[j]? := by
                  intro j
                  simp only [new, List.getElem?_toArray, List.append_assoc]
                  rw [List.getElem?_append]
                  have hl1 : (old.toList.take (st + off + ds_n * ei.size)).length = st + off + ds_n * ei.size := by simp; omega
                  rw [hl1]
                  split
                  · rw [if_neg (by omega), List.getElem?_take_of_lt (by omega)]; simp
                  · rw [List.getElem?_append, hul]
                    split
                    · rw [if_pos (by omega)]; simp
                    · rw [if_neg (by omega), List.getElem?_drop]; simp; congr 1; omega
                have hcl : c.length = c.length := rfl
                obtain ⟨m1, m2, m3, m4⟩ := hc_move hc.hc hkc hb harr (c' := (c.drop off).take (ds_n * ei.size) ++ cs) (st' := st + off) (new := new) hnsz (by rw [hnsz, hcontent, Nat.add_mul]; omega) (fun j y hj => by
                  rw [hget]
                  rw [List.getElem?_append, hdl] at hj
                  split at hj
                  · rename_i hlt
                    rw [if_neg (by omega)]
                    rw [List.getElem?_take_of_lt hlt, List.getElem?_drop] at hj
                    rw [Nat.add_assoc]
                    exact hcell _ _ hj
                  · rename_i hge
                    have hjl : j - ds_n * ei.size < cs.length := (List.getElem?_eq_some_iff.1 hj).1
                    rw [if_pos (by omega), show st + off + j - (st + off + ds_n * ei.size) = j - ds_n * ei.size by omega]
                    exact hsrc.rel.2 _ _ hj)
                have hst := hc.step m2 m4 m1 m3
                have hrun' : (execOp a.eval o).run E.P w = .ok (.value (.slice (some ⟨b, st + off, none⟩) (ds_n + m) cap)) (w.setRow b new) := by
                  rw [hexec, hv, hrun]; rfl
                have := Cf.put (d := o.dst) hd (r := .ls σ.nx 0 ei.size (ds_n + m)) (u := .slice (some ⟨b, st + off, none⟩) (ds_n + m) cap) (.ls _ _ _ _ b (st + off) cap (if_pos rfl) hfit ⟨_, _, _, setRow_heap _ _ _ _ _ _ harr, by rw [hnsz]; omega⟩) hst
                exact mok_value hrun' ⟨_, _, _, hK, newRow_n _ _ _ _, newRow_cn.2 this⟩
            · exact hgrow _ cap hv hfit
        · exact h.elim
      · exact h.elim
    · exact h.elim
  · exact h.elim
end
end Go.Ab
set_option linter.unusedSimpArgs false
set_option linter.unusedVariables false
namespace Go.Ab
variable [Dr]
open Go.RowKit
section
variable {E : Ev} {o : Oper} {σ : St} {K : St → Prop} {g : Gh} {β : Bt} {O : Nat → Prop} {a : Act} {w : World} {Q : Exit → Act → World → Prop}
theorem callM_ok {f : Operand} {args : Array Operand} {ts : Array TypeId} {fid : FuncId} {first captured : List AV} (ho : o.op = .call { callee := .value f, args := args, argTypes := ts }) (hd : dOk σ.n o.dst) (hc : Cn g β O σ a w)
    (hf : σ.ge f = .fn (.func fid) first captured) (h : CallM E.P fid σ.hp σ.nx (first ++ args.toList.map σ.ge ++ captured) fun r H' nx' => K ({ σ with hp := H', nx := nx' }.put o.dst r)) : MOk E o σ.n K g a w Q := by
  obtain ⟨hcan, hcall⟩ := h
  obtain ⟨us, vs, hfv, hs, ht, hu, hv⟩ := (show R β O w (.fn (.func fid) first captured) (a.eval f) from hf ▸ hc.ge f).fn_inv
  obtain ⟨a1, a2⟩ := rs_map (ge := σ.ge) (ev := a.eval) (β := β) (O := O) (w := w) (ops := args) (fun x _ => hc.ge x)
  have hrun : (execOp a.eval o).run E.P w = .ok (.enter fid (us ++ args.map a.eval ++ vs)) w := by
    have hcan' : ∀ (args : Array Value) (w : World), (callFunc fid args).run E.P w = .ok (.enter fid args) w := hcan
    simp [execOp, ho, resolve, hfv, Deferred.ofValue, invoke, hcan']
  refine wpIn_run ?_
  rw [hrun]
  refine (hcall g β O w _ hc.hc hc.b0 (rs_append (rs_append ⟨hs, hu⟩ ⟨a1, a2⟩) ⟨ht, hv⟩)).mono fun e w' he => ?_
  obtain ⟨u, r, H', nx', β', O', rfl, hK, hh, hb, hr, htr, hβ⟩ := he
  have hst := hc.step htr hβ hh hb
  have := Cf.put (d := o.dst) hd hr hst
  refine ⟨u, rfl, β', O', _, hK, put_n _ _ _, ?_⟩
  unfold Cn
  rw [lk_put]
  cases hdd : o.dst <;> rw [hdd] at this <;> exact this
def Fit (E : Ev) (g : Gh) (σ : St) : Prop := (∀ y, E.Y = some y → g.inv = y.I σ.n.2.2 g.B0 ∧ ¬ g.mark) ∧ (E.Y = none → E.ro = none → g.mark)
def YOk (E : Ev) : Prop := ∀ y, E.Y = some y → YdOk E.P y
def Le (E : Ev) (g g' : Gh) : Prop := E.Y = none → g' = g
theorem Le.refl (E : Ev) (g : Gh) : Le E g g := fun _ => rfl
theorem Le.trans {E : Ev} {g g' g'' : Gh} (h : Le E g g') (k : Le E g' g'') : Le E g g'' := fun e => (k e).trans (h e)
theorem Fit.n {E : Ev} {g : Gh} {σ σ' : St} (h : Fit E g σ) (e : σ'.n = σ.n) : Fit E g σ' := ⟨fun y hy => by rw [e]; exact h.1 y hy, h.2⟩
abbrev NxtP (E : Ev) (g : Gh) (K : St → Prop) (a' : Act) (w' : World) : Prop := ∃ g' β' O' σ', Le E g g' ∧ Fit E g' σ' ∧ K σ' ∧ Cn g' β' O' σ' a' w'
theorem mok_up (hf : Fit E g σ) (h : MOk E o σ.n K g a w Q) : o.wpIn (Fn E.ro) 0 E.P a w (NxtP E g K) Q :=
  Oper.wpIn_mono (fun a' w' ⟨β', O', σ', h1, h2, h3⟩ => ⟨g, β', O', σ', Le.refl _ _, hf.n h2, h1, h3⟩) h
theorem yld_ok (hY : YOk E) (hf : Fit E g σ) {f : Operand} {args : Array Operand} {ts : Array TypeId} {l : Nat} {us vs : Array Value} (ho : o.op = .call { callee := .value f, args := args, argTypes := ts }) (hd : dOk σ.n o.dst) (hc : Cn g β O σ a w)
    (hfv : σ.ge f = .v (.func (.yield l) us vs)) (h : yldA E σ o.dst l us vs (args.toList.map σ.ge) K) : o.wpIn (Fn E.ro) 0 E.P a w (NxtP E g K) Q := by
  unfold yldA at h
  split at h
  · rename_i y hy
    obtain ⟨rfl, rfl, rfl, hys, hpl, hK⟩ := h
    have hv : a.eval f = .func (.yield y.l) #[] #[] := (show R β O w (.v (.func (.yield y.l) #[] #[])) (a.eval f) from hfv ▸ hc.ge f).v_inv
    obtain ⟨a1, a2⟩ := rs_map (ge := σ.ge) (ev := a.eval) (β := β) (O := O) (w := w) (ops := args) (fun x _ => hc.ge x)
    have hrps : Rps O w (args.toList.map σ.ge) (args.map a.eval) := ⟨a1, fun i x hx => let ⟨u, p, q⟩ := a2 i x hx; ⟨u, p, q.plain (plainL_get hpl hx)⟩⟩
    have hinv : y.I σ.n.2.2 g.B0 O w := by
      have := hc.inv
      rwa [(hf.1 y hy).1] at this
    obtain ⟨fn, tmps, assign, body, hrun, hround⟩ := (hY y hy).rnd _ _ _ _ _ _ hys hrps hinv hc.hc.own hc.b0
    have hexec : (execOp a.eval o).run E.P w = .ok (.round y.l fn tmps assign body) w := by
      simp [execOp, ho, resolve, hv, Deferred.ofValue, invoke, hrun]
    refine ⟨fun f' _ => Fn_fn _ f', ?_⟩
    rw [Oper.semAt_eq _ _ _ (by rw [ho]; intro c hc; cases hc), hexec]
    have hR : RoundIn (Fn E.ro) (0 - 1) E.P y.l fn tmps assign body w (fun e w' => e = .returned (.bool (y.an σ.n.2.2)) ∧ ∃ B' O', y.I (σ.n.2.2 + 1) B' O' w' ∧ Rnd g.B0 O w B' O' w') := by
      cases E.ro with
      | none => exact hround
      | some l => exact hround
    refine ⟨fun hh => ?_, hR.mono fun e w' he => ?_⟩
    · rw [Fn_depth] at hh; cases hh
    · obtain ⟨rfl, B', O', hI, hr⟩ := he
      refine ⟨{ B0 := B', O0 := fun _ => False, inv := y.I (σ.n.2.2 + 1) B', mark := g.mark, stab := fun O w O' w' => (hY y hy).stab _ _ _ _ _ _, p := 0, βp := fun _ => none, Op := O', wp := w', hp := fun _ _ => rfl }, β, O', _, fun e => ?_, ⟨fun y' hy' => ?_, fun e => ?_⟩, hK, ?_⟩
      · rw [hy] at e; cases e
      · rw [hy] at hy'; cases hy'; rw [put_n]; exact ⟨rfl, (hf.1 y hy).2⟩
      · rw [hy] at e; cases e
      · have hrow : ∀ k c, σ.hp k = some c → (β k = some none ∧ c = []) ∨ ∃ b st, β k = some (some (b, st)) ∧ O' b ∧ ¬ B' b ∧ RowAt β O' w' b st c := fun k c hk => by
          rcases hc.hc.row k c hk with h1 | ⟨b, st, h1, h2, h3, h4⟩
          · exact .inl h1
          · obtain ⟨m1, m2, m3⟩ := hr.mine b h4.lt h2 h3
            exact .inr ⟨b, st, h1, m2, m3, h4.mono hr.tr (fun _ _ h => h) m1⟩
        have hcf : Cf { B0 := B', O0 := fun _ => False, inv := y.I (σ.n.2.2 + 1) B', mark := g.mark, stab := fun O w O' w' => (hY y hy).stab _ _ _ _ _ _, p := 0, βp := fun _ => none, Op := O', wp := w', hp := fun _ _ => rfl } β O' (lk σ.fr) σ.hp σ.nx (σ.n.1, σ.n.2.1, σ.n.2.2 + 1) a w' := by
          refine ⟨?_, fun t av ht => let ⟨u, p, q⟩ := hc.fr t av ht; ⟨u, p, q.mono hr.tr (fun _ _ h => h)⟩, hc.sz, ⟨hrow, hc.hc.inj, hc.hc.own.tr hr.tr hr.own, fun b hb => hb.elim, hc.hc.free, hc.hc.fresh⟩, hI, hr.bk, Nat.zero_le _, fun k q hq => (by cases hq), Tr.refl _ _⟩
          have ht := hc.defers.tr hr.tr
          obtain ⟨Ds, h1, h2, h3⟩ := hc.defers.ds
          refine ⟨ht.may, Ds, h1, h2, fun D hD => ?_⟩
          obtain ⟨p, q, r⟩ := h3 D hD
          obtain ⟨k1, k2⟩ := hr.tr.keep D (lt_of_get r) p
          exact ⟨k2, fun hb => q (hr.less D (lt_of_get r) hb), k1.trans r⟩
        have hd' : dOk (σ.n.1, σ.n.2.1, σ.n.2.2 + 1) o.dst := by revert hd; cases o.dst <;> exact id
        have := Cf.put (d := o.dst) (r := .v (.bool (y.an σ.n.2.2))) (u := .bool (y.an σ.n.2.2)) hd' (R.vv _) hcf
        unfold Cn
        rw [lk_put]
        cases hdd : o.dst <;> rw [hdd] at this <;> exact this
  · exact h.elim
theorem mop_ok (hE : EvOk E) (hY : YOk E) (hf : Fit E g σ) (hd : dOk σ.n o.dst) (hc : Cn g β O σ a w) (h : mop E o σ K) : o.wpIn (Fn E.ro) 0 E.P a w (NxtP E g K) Q := by
  have h' := h
  unfold mop at h
  split at h
  case h_1 t ad x ho => exact mok_up hf (store_ok hE ho hd hc h')
  case h_2 e ho =>
    split at h
    · rename_i ti ht
      split at h
      · rename_i zs hz
        obtain ⟨z, z1, z2, z3⟩ := run_zero hE.T ht w
        have hrs : Rs β O w zs z.cells := rs_zero_of (by rw [z2]; exact hz)
        exact mok_up hf <| new_ok (e := e) (r := fun j => .lp j 0) hc hd (by rw [hrs.1]; exact Nat.le_refl _) hrs.2 (u := .pointer (some ⟨w.heap.size, 0 + 0, none⟩)) (fun β' O' hβ _ => .lp _ _ _ _ hβ) (by simp [execOp, ho, Instr.alloc, newVar, Go.newRow, z1]) h
      · exact h.elim
    · exact h.elim
  case h_3 e x ho =>
    split at h
    · rename_i cs hcs
      have hrs : Rs β O w cs (a.eval x).cells := (hc.ge x).cells hcs
      exact mok_up hf <| new_ok (e := e) (r := fun j => .lp j 0) hc hd (by rw [hrs.1]; exact Nat.le_refl _) hrs.2 (u := .pointer (some ⟨w.heap.size, 0 + 0, none⟩)) (fun β' O' hβ _ => .lp _ _ _ _ hβ) (by simp [execOp, ho, Instr.box, newVar, Go.newRow]) h
    · exact h.elim
  case h_4 t len parts ho =>
    obtain ⟨cs, sz, hK, hl, hrun⟩ := buildSl_run hE h
    obtain ⟨arr, e, h1, h2⟩ := hrun β O w a.eval (fun p _ => hc.ge p.2)
    refine mok_up hf <| new_ok (e := e) (r := fun j => .ls j 0 sz len) hc hd (by rw [h2.1]; exact Nat.le_refl _) h2.2 (u := .slice (some ⟨w.heap.size, 0 + 0, none⟩) len len) (fun β' O' hβ hb => .ls _ _ _ _ _ _ _ hβ (Nat.le_refl _) ⟨_, _, _, hb, by rw [h2.1, hl]; omega⟩) ?_ hK
    simp only [execOp, ho, Sem.run_bind]
    erw [h1]
    rfl
  case h_5 t len cap ho =>
    obtain ⟨cs, sz, n, hK, hl, hrun⟩ := makeSl_run hE h
    obtain ⟨arr, e, h1, h2⟩ := hrun β O w a.eval (hc.ge _) (hc.ge _)
    refine mok_up hf <| new_ok (e := e) (r := fun j => .ls j 0 sz n) hc hd (by rw [h2.1]; exact Nat.le_refl _) h2.2 (u := .slice (some ⟨w.heap.size, 0 + 0, none⟩) n n) (fun β' O' hβ hb => .ls _ _ _ _ _ _ _ hβ (Nat.le_refl _) ⟨_, _, _, hb, by rw [h2.1, hl]; omega⟩) ?_ hK
    simp only [execOp, ho, Sem.run_bind, h1, Result.andThen_ok, Sem.run_pure]
  case h_6 ho =>
    split at h
    · rename_i ti ht
      split at h
      · rename_i e hk
        split at h
        · rename_i ei he
          exact mok_up hf <| nil_ok (sz := ei.size) (ad := none) hc hd trivial (by simp [execOp, ho, Act.eval]) h
        · exact h.elim
      · exact h.elim
    · exact h.elim
  case h_7 t x ho =>
    split at h
    · rename_i ti ht
      split at h
      · rename_i e sz n cs hk hx
        split at h
        · rename_i ei he
          have hu := run_und_slice hE.T ht hk w
          have hs := run_size hE.T he w
          have hz : a.eval (.const (.int .i64 0)) = .int .i64 0 := rfl
          obtain ⟨_, ⟨_, _, ad, hv⟩ | ⟨b, off, cap, hO, hb, _, hv, _⟩⟩ := (show R β O w (.sl sz n cs) (a.eval x) from hx ▸ hc.ge x).sl_inv
          · exact mok_up hf <| nil_ok (sz := ei.size) (ad := ad) hc hd trivial (by cases ad <;> simp [execOp, ho, hv, hz, Instr.sliceAt, Instr.slice, hu, hs, Instr.sliceBounds, Instr.sliceBound, asIntOf]) h
          · exact mok_up hf <| nil_ok (sz := ei.size) (ad := some ⟨b, off, none⟩) hc hd trivial (by simp [execOp, ho, hv, hz, Instr.sliceAt, Instr.slice, hu, hs, Instr.sliceBounds, Instr.sliceBound, asIntOf]) h
        · exact h.elim
      · exact h.elim
    · exact h.elim
  case h_8 t x t' ho =>
    split at h
    · rename_i ti sz n cs ht hx
      split at h
      · rename_i e hk
        have hu := run_und_slice hE.T ht hk w
        have hput : ∀ b : Bool, Cn g β O (σ.put o.dst (.v (.bool b))) (a.put o.dst (.bool b)) w := fun b => by
          have := Cf.put (d := o.dst) hd (R.vv (.bool b)) hc
          unfold Cn
          rw [lk_put]
          cases hdd : o.dst <;> rw [hdd] at this <;> exact this
        have hrun : ∀ (ad : Option Addr) (n cap : Nat), a.eval x = .slice ad n cap → (execOp a.eval o).run E.P w = .ok (.value (.bool ad.isNone)) w := fun ad n cap hv => by
          have hg : (eqGuard .eql t x (.const (.slice none 0 0)) (.slice ad n cap) (.slice none 0 0)).run E.P w = .ok () w := by simp [eqGuard]
          have hz : a.eval (.const (.slice none 0 0)) = .slice none 0 0 := rfl
          have hb : (Go.binOp .eql t (.slice ad n cap) (.slice none 0 0)).run E.P w = .ok (.bool ad.isNone) w := by
            show ((do pure (Value.bool (← Op.equalIn 10000 t (.slice ad n cap) (.slice none 0 0))) : Sem Value).run E.P w) = _
            rw [Sem.run_bind, Op.equalIn, Sem.run_bind, hu]
            cases ad <;> simp
          simp only [execOp, ho, hv, hz, Sem.run_bind, hg, Result.andThen_ok, hb, Sem.run_pure]
        obtain ⟨_, ⟨hn, _, ad, hv⟩ | ⟨b, off, cap, hO, hb, _, hv, _⟩⟩ := (show R β O w (.sl sz n cs) (a.eval x) from hx ▸ hc.ge x).sl_inv
        · cases ad with
          | none => exact mok_up hf <| mok_value (u := .bool true) (hrun _ _ _ hv) ⟨β, O, _, h.1 hn, put_n _ _ _, hput true⟩
          | some ad => exact mok_up hf <| mok_value (u := .bool false) (hrun _ _ _ hv) ⟨β, O, _, h.2, put_n _ _ _, hput false⟩
        · exact mok_up hf <| mok_value (u := .bool false) (hrun _ _ _ hv) ⟨β, O, _, h.2, put_n _ _ _, hput false⟩
      · exact h.elim
    · exact h.elim
  case h_9 c ho =>
    split at h
    · rename_i args ts
      split at h
      · rename_i s x t t' hx ht
        have e1 : args = #[s, x] := by rw [← Array.toArray_toList (xs := args), hx]
        have e2 : ts = #[t, t'] := by rw [← Array.toArray_toList (xs := ts), ht]
        subst e1 e2
        exact mok_up hf <| append_ok hE ho hd hc h
      · exact h.elim
    · rename_i f args ts
      split at h
      · rename_i fid first captured hfv
        exact mok_up hf <| callM_ok ho hd hc hfv h
      · rename_i l us vs hfv
        exact yld_ok hY hf ho hd hc hfv h
      · exact h.elim
    · exact h.elim
  case h_10 => exact h.elim
def gd (ops : Array Oper) (o : Oper) (σ : St) (Y N : St → Prop) : Prop :=
  match o.guard with
  | none => Y σ
  | some (j, want) =>
    match (ops[j]?).bind (·.dst) with
    | some d =>
      match lk σ.fr d with
      | some (.v (.bool c)) => d < σ.n.1 ∧ bsplit c fun c => bif c == want then Y (σ.put (some d) (.v (.bool c))) else N (σ.put (some d) (.v (.bool c)))
      | some (.v (.tuple _)) => N σ
      | _ => False
    | none => False
def opS (E : Ev) (mu : List Nat) (ops : Array Oper) (o : Oper) (σ : St) (K : St → Prop) : Prop :=
  dOk σ.n o.dst ∧ gd ops o σ (fun σ => bif isMut mu o then mop E o σ K else sop E o σ.ge σ.hp σ.nx fun r => K (σ.put o.dst r)) (fun σ => K (σ.put o.dst (.v undef)))
def wpA (E : Ev) (mu : List Nat) (ops : Array Oper) : List Oper → St → (St → Prop) → Prop
  | [], σ, K => K σ
  | o :: l, σ, K => opS E mu ops o σ fun σ => wpA E mu ops l σ K
def opK (E : Ev) (mu : List Nat) (ops : Array Oper) (l : List Oper) (d : Option Nat) (K : St → Prop) (σ : St) (r : AV) : Prop := wpA E mu ops l (σ.put d r) K
def moK (E : Ev) (mu : List Nat) (ops : Array Oper) (l : List Oper) (K : St → Prop) (σ : St) : Prop := wpA E mu ops l σ K
def runO (E : Ev) (mu : List Nat) (ops : Array Oper) (o : Oper) (l : List Oper) (K : St → Prop) (σ : St) : Prop :=
  bif isMut mu o then mop E o σ (moK E mu ops l K) else sop E o σ.ge σ.hp σ.nx (opK E mu ops l o.dst K σ)
def gdB (E : Ev) (mu : List Nat) (ops : Array Oper) (o : Oper) (l : List Oper) (d : Nat) (want : Bool) (K : St → Prop) (σ : St) (c : Bool) : Prop :=
  bsplit c fun c => bif c == want then runO E mu ops o l K (σ.put (some d) (.v (.bool c))) else opK E mu ops l o.dst K (σ.put (some d) (.v (.bool c))) (.v undef)
theorem wpA_nil (E : Ev) (mu : List Nat) (ops : Array Oper) (σ : St) (K : St → Prop) : wpA E mu ops [] σ K = K σ := rfl
theorem wpA_cons (E : Ev) (mu : List Nat) (ops : Array Oper) (o : Oper) (l : List Oper) (σ : St) (K : St → Prop) : wpA E mu ops (o :: l) σ K = (dOk σ.n o.dst ∧
    match o.guard with
    | none => runO E mu ops o l K σ
    | some (j, want) =>
      match (ops[j]?).bind (·.dst) with
      | some d =>
        match lk σ.fr d with
        | some (.v (.bool c)) => d < σ.n.1 ∧ gdB E mu ops o l d want K σ c
        | some (.v (.tuple _)) => opK E mu ops l o.dst K σ (.v undef)
        | _ => False
      | none => False) := rfl
theorem gdB_true (E : Ev) (mu : List Nat) (ops : Array Oper) (o : Oper) (l : List Oper) (d : Nat) (want : Bool) (K : St → Prop) (σ : St) :
    gdB E mu ops o l d want K σ true = bif want then runO E mu ops o l K (σ.put (some d) (.v (.bool true))) else opK E mu ops l o.dst K (σ.put (some d) (.v (.bool true))) (.v undef) := by
  simp only [gdB, bsplit_true]; cases want <;> rfl
theorem gdB_false (E : Ev) (mu : List Nat) (ops : Array Oper) (o : Oper) (l : List Oper) (d : Nat) (want : Bool) (K : St → Prop) (σ : St) :
    gdB E mu ops o l d want K σ false = bif want then opK E mu ops l o.dst K (σ.put (some d) (.v (.bool false))) (.v undef) else runO E mu ops o l K (σ.put (some d) (.v (.bool false))) := by
  simp only [gdB, bsplit_false]; cases want <;> rfl
theorem gdB_intro {E : Ev} {mu : List Nat} {ops : Array Oper} {o : Oper} {l : List Oper} {d : Nat} {want : Bool} {K : St → Prop} {σ : St} {c : Bool} (h1 : c = true → gdB E mu ops o l d want K σ true) (h2 : c = false → gdB E mu ops o l d want K σ false) : gdB E mu ops o l d want K σ c := by
  cases c
  · exact h2 rfl
  · exact h1 rfl
theorem Cn.same {σ' : St} (hf : ∀ t, lk σ'.fr t = lk σ.fr t) (hh : σ'.hp = σ.hp) (hn : σ'.nx = σ.nx) (hs : σ'.n = σ.n) (h : Cn g β O σ a w) : Cn g β O σ' a w := by
  unfold Cn
  rw [hh, hn, hs, funext hf]
  exact h
theorem put_same {d : Nat} {av : AV} (h : lk σ.fr d = some av) (t : Nat) : lk (σ.put (some d) av).fr t = lk σ.fr t := by
  rw [lk_put]
  simp only [updF]
  by_cases e : d = t
  · subst e; simp [h]
  · rw [show (d == t) = false by simpa using e, cond_false]
theorem gd_cases {ops : Array Oper} {Y N : St → Prop} (h : gd ops o σ Y N) : ∃ σ' : St, (∀ t, lk σ'.fr t = lk σ.fr t) ∧ σ'.hp = σ.hp ∧ σ'.nx = σ.nx ∧ σ'.n = σ.n ∧
    ((wantedA (lk σ.fr) ops o = some true ∧ Y σ') ∨ (wantedA (lk σ.fr) ops o = some false ∧ N σ')) := by
  unfold gd at h
  unfold wantedA
  split at h
  · rename_i hg
    exact ⟨σ, fun _ => rfl, rfl, rfl, rfl, .inl ⟨by simp [hg], h⟩⟩
  · rename_i j want hg
    split at h
    · rename_i d hd
      split at h
      · rename_i c hl
        obtain ⟨_, h⟩ := h
        have h := bsplit_of h
        refine ⟨σ.put (some d) (.v (.bool c)), put_same hl, rfl, rfl, rfl, ?_⟩
        cases hcw : (c == want) with
        | true => rw [hcw, cond_true] at h; exact .inl ⟨by simp [hg, hd, hl, hcw], h⟩
        | false => rw [hcw, cond_false] at h; exact .inr ⟨by simp [hg, hd, hl, hcw], h⟩
      · rename_i hl
        exact ⟨σ, fun _ => rfl, rfl, rfl, rfl, .inr ⟨by simp [hg, hd, hl], h⟩⟩
      · exact h.elim
    · exact h.elim
theorem opS_ok (hE : EvOk E) (hY : YOk E) (hf : Fit E g σ) {mu : List Nat} {ops : Array Oper} (hc : Cn g β O σ a w) (h : opS E mu ops o σ K) : opAt E.ro E.P ops Q o (NxtP E g K) a w := by
  obtain ⟨hd, h⟩ := h
  obtain ⟨σ', hfr, hh, hn, hs, h⟩ := gd_cases h
  have hc' : Cn g β O σ' a w := hc.same hfr hh hn hs
  unfold opAt
  rcases h with ⟨hw, h⟩ | ⟨hw, h⟩
  · rw [wantedA_ok hc hw, if_pos rfl]
    cases hm : isMut mu o with
    | true =>
      rw [hm, cond_true] at h
      exact mop_ok hE hY (hf.n hs) (by rw [hs]; exact hd) hc' h
    | false =>
      rw [hm, cond_false] at h
      obtain ⟨r, hr, hK⟩ := sop_ok hE h
      exact still_wp hc' (by rw [hs]; exact hd) hr fun a' w' hcf => ⟨g, β, O, _, Le.refl _ _, hf.n ((put_n _ _ _).trans hs), hK, by unfold Cn; rw [lk_put]; cases hdd : o.dst <;> rw [hdd] at hcf <;> exact hcf⟩
  · rw [wantedA_ok hc hw]
    simp only [Bool.false_eq_true, if_false]
    exact ⟨fun f _ => Fn_fn _ f, g, β, O, _, Le.refl _ _, hf.n ((put_n _ _ _).trans hs), h, hc'.put (by rw [hs]; exact hd) (R.vv undef)⟩
theorem wpA_ok (hE : EvOk E) (hY : YOk E) {mu : List Nat} {ops : Array Oper} : ∀ (l : List Oper) (σ : St) (K : St → Prop) (g : Gh) (β : Bt) (O : Nat → Prop) (a : Act) (w : World), Fit E g σ → Cn g β O σ a w → wpA E mu ops l σ K →
    (∀ a' w', NxtP E g K a' w' → Q .normal a' w') → wpListIn (Fn E.ro) 0 E.P ops Q l a w
  | [], σ, K, g, β, O, a, w, hf, hc, h, hK => hK a w ⟨g, β, O, σ, Le.refl _ _, hf, h, hc⟩
  | o :: l, σ, K, g, β, O, a, w, hf, hc, h, hK => by
    have h1 := opS_ok (Q := Q) hE hY hf hc h
    unfold opAt at h1
    unfold wpListIn
    have next : ∀ a' w', NxtP E g (fun σ => wpA E mu ops l σ K) a' w' → wpListIn (Fn E.ro) 0 E.P ops Q l a' w' := fun a' w' ⟨g', β', O', σ', hl, hf', h2, hc'⟩ =>
      wpA_ok hE hY l σ' K g' β' O' a' w' hf' hc' h2 fun a'' w'' ⟨g'', β'', O'', σ'', hl', h3⟩ => hK a'' w'' ⟨g'', β'', O'', σ'', hl.trans hl', h3⟩
    split
    · rename_i hw
      rw [if_pos hw] at h1
      exact Oper.wpIn_mono next h1
    · rename_i hw
      rw [if_neg hw] at h1
      exact ⟨h1.1, next _ _ h1.2⟩
theorem wpA_lex (hE : EvOk E) {mu : List Nat} {ops : Array Oper} : ∀ (l l' : List Oper) (σ : St) (K : St → Prop), (∀ o ∈ l, isMut mu o = false) → wpA E mu ops (l ++ l') σ K →
    ∃ rs σ', Lex E.P ops σ.hp σ.nx σ.n l (lk σ.fr) rs ∧ (∀ k t, lk σ'.fr t = foldX (fun _ => true) k l rs (lk σ.fr) t) ∧ σ'.hp = σ.hp ∧ σ'.nx = σ.nx ∧ σ'.n = σ.n ∧ wpA E mu ops l' σ' K
  | [], l', σ, K, _, h => ⟨[], σ, rfl, fun _ _ => rfl, rfl, rfl, rfl, h⟩
  | o :: l, l', σ, K, hm, h => by
    obtain ⟨hd, h⟩ := h
    obtain ⟨σ1, hf, hh, hn, hs, h⟩ := gd_cases h
    have main : ∀ r, Yf E.P ops σ.hp σ.nx o (lk σ.fr) r → wpA E mu ops (l ++ l') (σ1.put o.dst r) K →
        ∃ rs σ', Lex E.P ops σ.hp σ.nx σ.n (o :: l) (lk σ.fr) rs ∧ (∀ k t, lk σ'.fr t = foldX (fun _ => true) k (o :: l) rs (lk σ.fr) t) ∧ σ'.hp = σ.hp ∧ σ'.nx = σ.nx ∧ σ'.n = σ.n ∧ wpA E mu ops l' σ' K := by
      intro r hy hw
      have hlk : lk (σ1.put o.dst r).fr = updF (lk σ.fr) o.dst r := by rw [lk_put, funext hf]
      have hph : (σ1.put o.dst r).hp = σ.hp := by rw [← hh]; cases o.dst <;> rfl
      have hpn : (σ1.put o.dst r).nx = σ.nx := by rw [← hn]; cases o.dst <;> rfl
      have hps : (σ1.put o.dst r).n = σ.n := by rw [← hs]; cases o.dst <;> rfl
      obtain ⟨rs, σ', g1, g2, g3, g4, g5, g6⟩ := wpA_lex hE l l' _ K (fun o' ho' => hm o' (by simp [ho'])) hw
      rw [hlk, hph, hpn, hps] at g1
      refine ⟨r :: rs, σ', ⟨r, rs, rfl, hd, hy, g1⟩, fun k t => ?_, g3.trans hph, g4.trans hpn, g5.trans hps, g6⟩
      rw [g2 (k + 1) t, hlk]
      rfl
    rcases h with ⟨hw, h⟩ | ⟨hw, h⟩
    · rw [hm o (by simp), cond_false] at h
      obtain ⟨r, hr, hfl, hK⟩ := flo_ok hE h
      have : σ1.ge = geF (lk σ.fr) := by unfold St.ge; rw [funext hf]
      rw [this, hh, hn] at hr
      rw [this] at hfl
      exact main r ⟨.inl ⟨hw, hr⟩, hfl⟩ hK
    · exact main _ ⟨.inr ⟨hw, rfl⟩, fun hfl => by simp [wantedA, floB_guard hfl] at hw⟩ h
structure Post where
  n : St → Prop
  x : Nat → St → Prop
  r : St → Prop
def PC (E : Ev) (g : Gh) (Q : Post) (e : Exit) (a : Act) (w : World) : Prop :=
  match e with
  | .normal => NxtP E g Q.n a w
  | .exit id => NxtP E g (Q.x id) a w
  | .ret => NxtP E g Q.r a w
  | _ => False
theorem NxtP.mono {K K' : St → Prop} {g g' : Gh} {a : Act} {w : World} (h : NxtP E g' K a w) (hl : Le E g g') (hk : ∀ σ, K σ → K' σ) : NxtP E g K' a w :=
  let ⟨g'', β, O, σ, h1, h2, h3, h4⟩ := h
  ⟨g'', β, O, σ, hl.trans h1, h2, hk σ h3, h4⟩
theorem PC.le {g g' : Gh} {Q : Post} {e : Exit} {a : Act} {w : World} (h : PC E g' Q e a w) (hl : Le E g g') : PC E g Q e a w := by
  cases e <;> first | exact NxtP.mono h hl (fun _ h => h) | exact h.elim
def VC (E : Ev) (mu : List Nat) (c : Code) (Q : Post) (σ : St) : Prop := YOk E → ∀ (g : Gh) (β : Bt) (O : Nat → Prop) (a : Act) (w : World), Fit E g σ → Cn g β O σ a w → c.wpIn (Fn E.ro) 0 E.P (PC E g Q) a w
end
section
variable {E : Ev} {mu : List Nat} {Q : Post} {σ : St}
theorem vc_seq {x y : Code} (h : VC E mu x { n := fun σ => VC E mu y Q σ, x := Q.x, r := Q.r } σ) : VC E mu (.seq x y) Q σ := by
  intro hY g β O a w hf hc
  refine wpIn_seq (wpIn_mono (h hY g β O a w hf hc) fun e a w hq => ?_)
  cases e with
  | normal => obtain ⟨g', β', O', σ', hl, hf', h1, h2⟩ := hq; exact wpIn_mono (h1 hY g' β' O' _ _ hf' h2) fun e a w hq => hq.le hl
  | exit id => exact hq
  | ret => exact hq
  | _ => exact hq.elim
theorem vc_skip (h : Q.n σ) : VC E mu .skip Q σ := fun hY g β O a w hf hc => wpIn_skip ⟨g, β, O, σ, Le.refl _ _, hf, h, hc⟩
theorem vc_ret (h : Q.r σ) : VC E mu .ret Q σ := fun hY g β O a w hf hc => wpIn_ret ⟨g, β, O, σ, Le.refl _ _, hf, h, hc⟩
theorem vc_exit {id : Nat} (h : Q.x id σ) : VC E mu (.exit id) Q σ := fun hY g β O a w hf hc => wpIn_exit ⟨g, β, O, σ, Le.refl _ _, hf, h, hc⟩
theorem vc_block {id : Nat} {c : Code} (h : VC E mu c { n := Q.n, x := fun j σ => if j = id then Q.n σ else Q.x j σ, r := Q.r } σ) : VC E mu (.block id c) Q σ := by
  intro hY g β O a w hf hc
  refine wpIn_block (wpIn_mono (h hY g β O a w hf hc) fun e a w hq => ?_)
  cases e with
  | normal => exact hq
  | exit j =>
    simp only [Exit.inBlock]
    by_cases e : j = id
    · rw [if_pos e]; exact NxtP.mono hq (Le.refl _ _) fun σ h => by dsimp only at h; rwa [if_pos e] at h
    · rw [if_neg e]; exact NxtP.mono hq (Le.refl _ _) fun σ h => by dsimp only at h; rwa [if_neg e] at h
  | ret => exact hq
  | _ => exact hq.elim
theorem vc_cond {c : Operand} {x y : Code} {b : Bool} (hb : σ.ge c = .v (.bool b)) (ht : b = true → VC E mu x Q σ) (hf : b = false → VC E mu y Q σ) : VC E mu (.cond c x y) Q σ := by
  intro hY g β O a w hfit hc
  have : a.eval c = .bool b := (show R β O w (.v (.bool b)) (a.eval c) from hb ▸ hc.ge c).v_inv
  exact wpIn_cond_split this (fun h => ht h hY g β O a w hfit hc) (fun h => hf h hY g β O a w hfit hc)
theorem vc_region (hE : EvOk E) {id : Nat} {l : List Oper} (h : ∀ K : St → Prop, (∀ σ', Q.n σ' → K σ') → wpA E mu l.toArray l σ K) : VC E mu (.region id l.toArray false) Q σ := by
  intro hY g β O a w hf hc
  refine wpIn_region_list (by simpa using wpA_ok (Q := PC E g Q) hE hY l σ Q.n g β O a w hf hc (h Q.n fun _ h => h) (fun a' w' hq => hq))
def drawB (fl : Bool) (mu : List Nat) (l : List Oper) (h : Nat) : Bool := ordB fl l.toArray h && (l.take h).all fun o => !isMut mu o
theorem vc_draw (hE : EvOk E) {fl : Bool} (hro : fl = true → E.ro = none) {id : Nat} {l : List Oper} (k : Nat) (hb : drawB fl mu l k = true) (h : ∀ K : St → Prop, (∀ σ', Q.n σ' → K σ') → wpA E mu l.toArray l σ K) : VC E mu (.region id l.toArray true) Q σ := by
  intro hY g β O a w hf hc
  simp only [drawB, Bool.and_eq_true, List.all_eq_true] at hb
  have h0 := h Q.n fun _ h => h
  rw [show wpA E mu l.toArray l σ Q.n = wpA E mu l.toArray (l.take k ++ l.drop k) σ Q.n by rw [List.take_append_drop]] at h0
  obtain ⟨rs, σ', h1, h2, h3, h4, h5, h6⟩ := wpA_lex hE (l.take k) (l.drop k) σ Q.n (fun o ho => by simpa using hb.2 o ho) h0
  refine region_draw hro hE.mix (h := k) hb.1 (rs := rs) (fun c a w hq => hq) (by simpa using h1) (fun a' w' hc' => ?_) hc
  have hcn : Cn g β O σ' a' w' := by
    unfold Cn
    rw [h3, h4, h5, funext (h2 0)]
    simpa using hc'
  simpa using wpA_ok (Q := PC E g Q) hE hY (l.drop k) σ' Q.n g β O a' w' (hf.n h5) hcn h6 (fun a' w' hq => hq)
structure Ent (σ σ' : St) : Prop where
  n : σ'.n = σ.n
  run : ∀ (g : Gh) (β : Bt) (O : Nat → Prop) (a : Act) (w : World), Cn g β O σ a w → ∃ β' O', Cn g β' O' σ' a w
theorem vc_ent {c : Code} {σ' : St} (he : Ent σ σ') (h : VC E mu c Q σ') : VC E mu c Q σ := fun hY g β O a w hf hc =>
  let ⟨β', O', hc'⟩ := he.2 g β O a w hc
  h hY g β' O' a w (hf.n he.1) hc'
theorem NxtP.ent {K K' : St → Prop} {g : Gh} {a : Act} {w : World} (h : NxtP E g K a w) (hk : ∀ σ, K σ → ∃ σ', Ent σ σ' ∧ K' σ') : NxtP E g K' a w := by
  obtain ⟨g', β', O', σ', hl, hf, h1, h2⟩ := h
  obtain ⟨σ'', he, h1⟩ := hk σ' h1
  obtain ⟨β'', O'', h2⟩ := he.2 g' β' O' _ _ h2
  exact ⟨g', β'', O'', σ'', hl, hf.n he.1, h1, h2⟩
theorem vc_mono {c : Code} {Q' : Post} (h : VC E mu c Q' σ) (hn : ∀ σ, Q'.n σ → ∃ σ', Ent σ σ' ∧ Q.n σ') (hx : ∀ id σ, Q'.x id σ → ∃ σ', Ent σ σ' ∧ Q.x id σ') (hr : ∀ σ, Q'.r σ → ∃ σ', Ent σ σ' ∧ Q.r σ') : VC E mu c Q σ := by
  intro hY g β O a w hf hc
  refine wpIn_mono (h hY g β O a w hf hc) fun e a w hq => ?_
  cases e with
  | normal => exact NxtP.ent hq hn
  | exit id => exact NxtP.ent hq (hx id)
  | ret => exact NxtP.ent hq hr
  | _ => exact hq.elim
theorem least {p : Nat → Prop} : ∀ (n : Nat), p n → ∃ k, p k ∧ ∀ m, p m → k ≤ m := by
  intro n
  induction n using Nat.strongRecOn with
  | _ n ih =>
    intro hn
    by_cases h : ∃ m, m < n ∧ p m
    · obtain ⟨m, hm, hp⟩ := h
      exact ih m hm hp
    · exact ⟨n, hn, fun m hp => by
        rcases Nat.lt_or_ge m n with h' | h'
        · exact absurd ⟨m, h', hp⟩ h
        · exact h'⟩
theorem vc_loop {c : Code} {X : Type} (S : X → St) (φ : X → Prop) (μ : X → Nat) (x0 : X) (h0 : φ x0) (he : Ent σ (S x0))
    (step : ∀ x, φ x → VC E mu c { n := fun σ' => ∃ x', Ent σ' (S x') ∧ φ x' ∧ μ x' < μ x, x := Q.x, r := Q.r } (S x)) : VC E mu (.loop c) Q σ := by
  intro hY g β O a w hf hc
  let I : Act → World → Prop := fun a w => ∃ x g' β O, Le E g g' ∧ Fit E g' (S x) ∧ φ x ∧ Cn g' β O (S x) a w
  let B : Act → World → Nat → Prop := fun a w n => ∃ x g' β O, Le E g g' ∧ Fit E g' (S x) ∧ φ x ∧ Cn g' β O (S x) a w ∧ μ x ≤ n
  have hmin : ∀ a w, ∃ n, (∃ n, B a w n) → (B a w n ∧ ∀ k, B a w k → n ≤ k) := fun a w => by
    by_cases h : ∃ n, B a w n
    · obtain ⟨n, hn⟩ := h
      obtain ⟨k, h1, h2⟩ := least (p := B a w) n hn
      exact ⟨k, fun _ => ⟨h1, h2⟩⟩
    · exact ⟨0, fun h' => absurd h' h⟩
  let m : Act → World → Nat := fun a w => (hmin a w).choose
  have hI : I a w := by
    obtain ⟨β', O', hc'⟩ := he.2 g β O a w hc
    exact ⟨x0, g, β', O', Le.refl _ _, hf.n he.1, h0, hc'⟩
  refine wpIn_loop I m hI ?_
  intro a w ⟨x1, g1, β1, O1, hl1, hf1, hφ1, hc1⟩
  have hex : ∃ n, B a w n := ⟨μ x1, x1, g1, β1, O1, hl1, hf1, hφ1, hc1, Nat.le_refl _⟩
  obtain ⟨⟨x, gx, β, O, hl, hf, hφ, hc, hle⟩, _⟩ := (hmin a w).choose_spec hex
  refine wpIn_mono (step x hφ hY gx β O a w hf hc) fun e a' w' hq => ?_
  cases e with
  | normal =>
    obtain ⟨g', β', O', σ', hl', hf', ⟨x', he', hφ', hlt⟩, hc'⟩ := hq
    obtain ⟨β'', O'', hc''⟩ := he'.2 g' β' O' _ _ hc'
    refine ⟨⟨x', g', β'', O'', hl.trans hl', hf'.n he'.1, hφ', hc''⟩, ?_⟩
    have hb : B a' w' (μ x') := ⟨x', g', β'', O'', hl.trans hl', hf'.n he'.1, hφ', hc'', Nat.le_refl _⟩
    have h1 := ((hmin a' w').choose_spec ⟨_, hb⟩).2 (μ x') hb
    exact Nat.lt_of_le_of_lt h1 (Nat.lt_of_lt_of_le hlt hle)
  | exit id => exact NxtP.mono hq hl (fun _ h => h)
  | ret => exact NxtP.mono hq hl (fun _ h => h)
  | _ => exact hq.elim
end
end Go.Ab

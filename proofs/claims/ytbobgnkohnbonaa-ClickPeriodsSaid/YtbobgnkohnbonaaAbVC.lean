/- The abstract machine, part 12: all writing operations; regions; the rules for code; functions. -/
import Derived.Test.YtbobgnkohnbonaaAbMut3
set_option linter.unusedSimpArgs false
set_option linter.unusedVariables false
namespace Go.Ab
open Go.RowKit

section
variable {E : Ev} {o : Oper} {σ : St} {K : St → Prop} {g : Gh} {β : Bt} {O : Nat → Prop} {a : Act} {w : World} {Q : Exit → Act → World → Prop}

theorem callM_ok {f : Operand} {args : Array Operand} {ts : Array TypeId} {fid : FuncId} {first captured : List AV} (ho : o.op = .call { callee := .value f, args := args, argTypes := ts }) (hd : dOk σ.n o.dst) (hc : Cn g β O σ a w)
    (hf : σ.ge f = .fn (.func fid) first captured) (h : CallM E.P fid σ.hp σ.nx (first ++ args.toList.map σ.ge ++ captured) fun r H' nx' => K ({ σ with hp := H', nx := nx' }.put o.dst r)) : MOk E o σ.n K g a w Q := by
  obtain ⟨hcan, hcall⟩ := h
  obtain ⟨us, vs, hfv, hs, ht, hu, hv⟩ := (show R β O w (.fn (.func fid) first captured) (a.eval f) from hf ▸ hc.ge f).fn_inv
  obtain ⟨a1, a2⟩ := rs_map (ge := σ.ge) (ev := a.eval) (β := β) (O := O) (w := w) (ops := args) (fun x _ => hc.ge x)
  have hrun : (execOp a.eval o).run E.P w = .ok (.enter fid (us ++ args.map a.eval ++ vs)) w := by
    have hcan' : ∀ (args : Array Value) (w : World), (callFunc fid args).run E.P w = .ok (.enter fid args) w := hcan
    simp [execOp, ho, resolve, hfv, Deferred.ofValue, invoke, hcan']
  refine wpIn_run ?_
  rw [hrun]
  refine (hcall g β O w _ hc.hc hc.b0 (rs_append (rs_append ⟨hs, hu⟩ ⟨a1, a2⟩) ⟨ht, hv⟩)).mono fun e w' he => ?_
  obtain ⟨u, r, H', nx', β', O', rfl, hK, hh, hb, hr, htr, hβ⟩ := he
  have hst := hc.step htr hβ hh hb
  have := Cf.put (d := o.dst) hd hr hst
  refine ⟨u, rfl, β', O', _, hK, put_n _ _ _, ?_⟩
  unfold Cn
  rw [lk_put]
  cases hdd : o.dst <;> rw [hdd] at this <;> exact this

/-! ### rounds of a loop over a function -/
/-- The ghost says what the loop is at. -/
def Fit (E : Ev) (g : Gh) (σ : St) : Prop := (∀ y, E.Y = some y → g.inv = y.I σ.n.2.2 g.B0 ∧ ¬ g.mark) ∧ (E.Y = none → E.ro = none → g.mark)
def YOk (E : Ev) : Prop := ∀ y, E.Y = some y → YdOk E.P y
/-- Without a loop that is served, the ghost stays. -/
def Le (E : Ev) (g g' : Gh) : Prop := E.Y = none → g' = g
theorem Le.refl (E : Ev) (g : Gh) : Le E g g := fun _ => rfl
theorem Le.trans {E : Ev} {g g' g'' : Gh} (h : Le E g g') (k : Le E g' g'') : Le E g g'' := fun e => (k e).trans (h e)
theorem Fit.n {E : Ev} {g : Gh} {σ σ' : St} (h : Fit E g σ) (e : σ'.n = σ.n) : Fit E g σ' := ⟨fun y hy => by rw [e]; exact h.1 y hy, h.2⟩

abbrev NxtP (E : Ev) (g : Gh) (K : St → Prop) (a' : Act) (w' : World) : Prop := ∃ g' β' O' σ', Le E g g' ∧ Fit E g' σ' ∧ K σ' ∧ Cn g' β' O' σ' a' w'

theorem mok_up (hf : Fit E g σ) (h : MOk E o σ.n K g a w Q) : o.wpIn (Fn E.ro) 0 E.P a w (NxtP E g K) Q :=
  Oper.wpIn_mono (fun a' w' ⟨β', O', σ', h1, h2, h3⟩ => ⟨g, β', O', σ', Le.refl _ _, hf.n h2, h1, h3⟩) h

theorem yld_ok (hY : YOk E) (hf : Fit E g σ) {f : Operand} {args : Array Operand} {ts : Array TypeId} {l : Nat} {us vs : Array Value} (ho : o.op = .call { callee := .value f, args := args, argTypes := ts }) (hd : dOk σ.n o.dst) (hc : Cn g β O σ a w)
    (hfv : σ.ge f = .v (.func (.yield l) us vs)) (h : yldA E σ o.dst l us vs (args.toList.map σ.ge) K) : o.wpIn (Fn E.ro) 0 E.P a w (NxtP E g K) Q := by
  unfold yldA at h
  split at h
  · rename_i y hy
    obtain ⟨rfl, rfl, rfl, hys, hpl, hK⟩ := h
    have hv : a.eval f = .func (.yield y.l) #[] #[] := (show R β O w (.v (.func (.yield y.l) #[] #[])) (a.eval f) from hfv ▸ hc.ge f).v_inv
    obtain ⟨a1, a2⟩ := rs_map (ge := σ.ge) (ev := a.eval) (β := β) (O := O) (w := w) (ops := args) (fun x _ => hc.ge x)
    have hrps : Rps O w (args.toList.map σ.ge) (args.map a.eval) := ⟨a1, fun i x hx => let ⟨u, p, q⟩ := a2 i x hx; ⟨u, p, q.plain (plainL_get hpl hx)⟩⟩
    have hinv : y.I σ.n.2.2 g.B0 O w := by
      have := hc.inv
      rwa [(hf.1 y hy).1] at this
    obtain ⟨fn, tmps, assign, body, hrun, hround⟩ := (hY y hy).rnd _ _ _ _ _ _ hys hrps hinv hc.hc.own hc.b0
    have hexec : (execOp a.eval o).run E.P w = .ok (.round y.l fn tmps assign body) w := by
      simp [execOp, ho, resolve, hv, Deferred.ofValue, invoke, hrun]
    refine ⟨fun f' _ => Fn_fn _ f', ?_⟩
    rw [Oper.semAt_eq _ _ _ (by rw [ho]; intro c hc; cases hc), hexec]
    have hR : RoundIn (Fn E.ro) (0 - 1) E.P y.l fn tmps assign body w (fun e w' => e = .returned (.bool true) ∧ ∃ B' O', y.I (σ.n.2.2 + 1) B' O' w' ∧ Rnd g.B0 O w B' O' w') := by
      cases E.ro with
      | none => exact hround
      | some l => exact hround
    refine ⟨fun hh => ?_, hR.mono fun e w' he => ?_⟩
    · rw [Fn_depth] at hh; cases hh
    · obtain ⟨rfl, B', O', hI, hr⟩ := he
      refine ⟨{ B0 := B', O0 := fun _ => False, inv := y.I (σ.n.2.2 + 1) B', mark := g.mark, stab := fun O w O' w' => (hY y hy).stab _ _ _ _ _ _, p := 0, βp := fun _ => none, Op := O', wp := w', hp := fun _ _ => rfl }, β, O', _, fun e => ?_, ⟨fun y' hy' => ?_, fun e => ?_⟩, hK, ?_⟩
      · rw [hy] at e; cases e
      · rw [hy] at hy'; cases hy'; rw [put_n]; exact ⟨rfl, (hf.1 y hy).2⟩
      · rw [hy] at e; cases e
      · have hrow : ∀ k c, σ.hp k = some c → (β k = some none ∧ c = []) ∨ ∃ b st, β k = some (some (b, st)) ∧ O' b ∧ ¬ B' b ∧ RowAt β O' w' b st c := fun k c hk => by
          rcases hc.hc.row k c hk with h1 | ⟨b, st, h1, h2, h3, h4⟩
          · exact .inl h1
          · obtain ⟨m1, m2, m3⟩ := hr.mine b h4.lt h2 h3
            exact .inr ⟨b, st, h1, m2, m3, h4.mono hr.tr (fun _ _ h => h) m1⟩
        have hcf : Cf { B0 := B', O0 := fun _ => False, inv := y.I (σ.n.2.2 + 1) B', mark := g.mark, stab := fun O w O' w' => (hY y hy).stab _ _ _ _ _ _, p := 0, βp := fun _ => none, Op := O', wp := w', hp := fun _ _ => rfl } β O' (lk σ.fr) σ.hp σ.nx (σ.n.1, σ.n.2.1, σ.n.2.2 + 1) a w' := by
          refine ⟨?_, fun t av ht => let ⟨u, p, q⟩ := hc.fr t av ht; ⟨u, p, q.mono hr.tr (fun _ _ h => h)⟩, hc.sz, ⟨hrow, hc.hc.inj, hr.own, fun b hb => hb.elim, hc.hc.free, hc.hc.fresh⟩, hI, hr.bk, Nat.zero_le _, fun k q hq => (by cases hq), Tr.refl _ _⟩
          have ht := hc.defers.tr hr.tr
          obtain ⟨Ds, h1, h2, h3⟩ := hc.defers.ds
          refine ⟨ht.may, Ds, h1, h2, fun D hD => ?_⟩
          obtain ⟨p, q, r⟩ := h3 D hD
          obtain ⟨k1, k2⟩ := hr.tr.keep D (lt_of_get r) p
          exact ⟨k2, fun hb => q (hr.less D (lt_of_get r) hb), k1.trans r⟩
        have hd' : dOk (σ.n.1, σ.n.2.1, σ.n.2.2 + 1) o.dst := by revert hd; cases o.dst <;> exact id
        have := Cf.put (d := o.dst) (r := .v (.bool true)) (u := .bool true) hd' (R.vv _) hcf
        unfold Cn
        rw [lk_put]
        cases hdd : o.dst <;> rw [hdd] at this <;> exact this
  · exact h.elim

theorem mop_ok (hE : EvOk E) (hY : YOk E) (hf : Fit E g σ) (hd : dOk σ.n o.dst) (hc : Cn g β O σ a w) (h : mop E o σ K) : o.wpIn (Fn E.ro) 0 E.P a w (NxtP E g K) Q := by
  have h' := h
  unfold mop at h
  split at h
  case h_1 t ad x ho => exact mok_up hf (store_ok hE ho hd hc h')
  case h_2 e ho =>
    split at h
    · rename_i ti ht
      split at h
      · rename_i zs hz
        obtain ⟨z, z1, z2, z3⟩ := run_zero hE.T ht w
        have hrs : Rs β O w zs z.cells := rs_zero_of (by rw [z2]; exact hz)
        exact mok_up hf <| new_ok (e := e) (r := fun j => .lp j 0) hc hd (by rw [hrs.1]; exact Nat.le_refl _) hrs.2 (u := .pointer (some ⟨w.heap.size, 0 + 0, none⟩)) (fun β' O' hβ _ => .lp _ _ _ _ hβ) (by simp [execOp, ho, Instr.alloc, newVar, Go.newRow, z1]) h
      · exact h.elim
    · exact h.elim
  case h_3 e x ho =>
    split at h
    · rename_i cs hcs
      have hrs : Rs β O w cs (a.eval x).cells := (hc.ge x).cells hcs
      exact mok_up hf <| new_ok (e := e) (r := fun j => .lp j 0) hc hd (by rw [hrs.1]; exact Nat.le_refl _) hrs.2 (u := .pointer (some ⟨w.heap.size, 0 + 0, none⟩)) (fun β' O' hβ _ => .lp _ _ _ _ hβ) (by simp [execOp, ho, Instr.box, newVar, Go.newRow]) h
    · exact h.elim
  case h_4 t len parts ho =>
    obtain ⟨cs, sz, hK, hl, hrun⟩ := buildSl_run hE h
    obtain ⟨arr, e, h1, h2⟩ := hrun β O w a.eval (fun p _ => hc.ge p.2)
    refine mok_up hf <| new_ok (e := e) (r := fun j => .ls j 0 sz len) hc hd (by rw [h2.1]; exact Nat.le_refl _) h2.2 (u := .slice (some ⟨w.heap.size, 0 + 0, none⟩) len len) (fun β' O' hβ hb => .ls _ _ _ _ _ _ _ hβ (Nat.le_refl _) ⟨_, _, _, hb, by rw [h2.1, hl]; omega⟩) ?_ hK
    simp only [execOp, ho, Sem.run_bind]
    erw [h1]
    rfl
  case h_5 t len cap ho =>
    obtain ⟨cs, sz, n, hK, hl, hrun⟩ := makeSl_run hE h
    obtain ⟨arr, e, h1, h2⟩ := hrun β O w a.eval (hc.ge _) (hc.ge _)
    refine mok_up hf <| new_ok (e := e) (r := fun j => .ls j 0 sz n) hc hd (by rw [h2.1]; exact Nat.le_refl _) h2.2 (u := .slice (some ⟨w.heap.size, 0 + 0, none⟩) n n) (fun β' O' hβ hb => .ls _ _ _ _ _ _ _ hβ (Nat.le_refl _) ⟨_, _, _, hb, by rw [h2.1, hl]; omega⟩) ?_ hK
    simp only [execOp, ho, Sem.run_bind, h1, Result.andThen_ok, Sem.run_pure]
  case h_6 ho =>
    split at h
    · rename_i ti ht
      split at h
      · rename_i e hk
        split at h
        · rename_i ei he
          exact mok_up hf <| nil_ok (sz := ei.size) (ad := none) hc hd (fun x hx => by cases hx) (by simp [execOp, ho, Act.eval]) h
        · exact h.elim
      · exact h.elim
    · exact h.elim
  case h_7 t x ho =>
    split at h
    · rename_i ti ht
      split at h
      · rename_i e sz n cs hk hx
        split at h
        · rename_i ei he
          have hu := run_und_slice hE.T ht hk w
          have hs := run_size hE.T he w
          have hz : a.eval (.const (.int .i64 0)) = .int .i64 0 := rfl
          obtain ⟨_, ⟨_, _, hv⟩ | ⟨b, off, cap, hO, hb, _, hv, _⟩⟩ := (show R β O w (.sl sz n cs) (a.eval x) from hx ▸ hc.ge x).sl_inv
          · exact mok_up hf <| nil_ok (sz := ei.size) (ad := none) hc hd (fun x hx => by cases hx) (by simp [execOp, ho, hv, hz, Instr.sliceAt, Instr.slice, hu, hs, Instr.sliceBounds, Instr.sliceBound, asIntOf]) h
          · exact mok_up hf <| nil_ok (sz := ei.size) (ad := some ⟨b, off, none⟩) hc hd (fun x hx => by cases hx; exact ⟨b, off, rfl, hO, hb⟩) (by simp [execOp, ho, hv, hz, Instr.sliceAt, Instr.slice, hu, hs, Instr.sliceBounds, Instr.sliceBound, asIntOf]) h
        · exact h.elim
      · exact h.elim
    · exact h.elim
  case h_8 c ho =>
    split at h
    · rename_i args ts
      split at h
      · rename_i s x t t' hx ht
        have e1 : args = #[s, x] := by rw [← Array.toArray_toList (xs := args), hx]
        have e2 : ts = #[t, t'] := by rw [← Array.toArray_toList (xs := ts), ht]
        subst e1 e2
        exact mok_up hf <| append_ok hE ho hd hc h
      · exact h.elim
    · rename_i f args ts
      split at h
      · rename_i fid first captured hfv
        exact mok_up hf <| callM_ok ho hd hc hfv h
      · rename_i l us vs hfv
        exact yld_ok hY hf ho hd hc hfv h
      · exact h.elim
    · exact h.elim
  case h_9 => exact h.elim

/-! ### operations one behind the other -/
def gd (ops : Array Oper) (o : Oper) (σ : St) (Y N : St → Prop) : Prop :=
  match o.guard with
  | none => Y σ
  | some (j, want) =>
    match (ops[j]?).bind (·.dst) with
    | some d =>
      match lk σ.fr d with
      | some (.v (.bool c)) => d < σ.n.1 ∧ bsplit c fun c => bif c == want then Y (σ.put (some d) (.v (.bool c))) else N (σ.put (some d) (.v (.bool c)))
      | some (.v (.tuple _)) => N σ
      | _ => False
    | none => False

def opS (E : Ev) (mu : List Nat) (ops : Array Oper) (o : Oper) (σ : St) (K : St → Prop) : Prop :=
  dOk σ.n o.dst ∧ gd ops o σ (fun σ => bif isMut mu o then mop E o σ K else sop E o σ.ge σ.hp σ.nx fun r => K (σ.put o.dst r)) (fun σ => K (σ.put o.dst (.v undef)))

def wpA (E : Ev) (mu : List Nat) (ops : Array Oper) : List Oper → St → (St → Prop) → Prop
  | [], σ, K => K σ
  | o :: l, σ, K => opS E mu ops o σ fun σ => wpA E mu ops l σ K

/-- What follows an operation: named, so that a walk does not look into it before its time. -/
def opK (E : Ev) (mu : List Nat) (ops : Array Oper) (l : List Oper) (d : Option Nat) (K : St → Prop) (σ : St) (r : AV) : Prop := wpA E mu ops l (σ.put d r) K
def moK (E : Ev) (mu : List Nat) (ops : Array Oper) (l : List Oper) (K : St → Prop) (σ : St) : Prop := wpA E mu ops l σ K
def runO (E : Ev) (mu : List Nat) (ops : Array Oper) (o : Oper) (l : List Oper) (K : St → Prop) (σ : St) : Prop :=
  bif isMut mu o then mop E o σ (moK E mu ops l K) else sop E o σ.ge σ.hp σ.nx (opK E mu ops l o.dst K σ)
def gdB (E : Ev) (mu : List Nat) (ops : Array Oper) (o : Oper) (l : List Oper) (d : Nat) (want : Bool) (K : St → Prop) (σ : St) (c : Bool) : Prop :=
  bsplit c fun c => bif c == want then runO E mu ops o l K (σ.put (some d) (.v (.bool c))) else opK E mu ops l o.dst K (σ.put (some d) (.v (.bool c))) (.v undef)

theorem wpA_nil (E : Ev) (mu : List Nat) (ops : Array Oper) (σ : St) (K : St → Prop) : wpA E mu ops [] σ K = K σ := rfl
theorem wpA_cons (E : Ev) (mu : List Nat) (ops : Array Oper) (o : Oper) (l : List Oper) (σ : St) (K : St → Prop) : wpA E mu ops (o :: l) σ K = (dOk σ.n o.dst ∧
    match o.guard with
    | none => runO E mu ops o l K σ
    | some (j, want) =>
      match (ops[j]?).bind (·.dst) with
      | some d =>
        match lk σ.fr d with
        | some (.v (.bool c)) => d < σ.n.1 ∧ gdB E mu ops o l d want K σ c
        | some (.v (.tuple _)) => opK E mu ops l o.dst K σ (.v undef)
        | _ => False
      | none => False) := rfl
theorem gdB_true (E : Ev) (mu : List Nat) (ops : Array Oper) (o : Oper) (l : List Oper) (d : Nat) (want : Bool) (K : St → Prop) (σ : St) :
    gdB E mu ops o l d want K σ true = bif want then runO E mu ops o l K (σ.put (some d) (.v (.bool true))) else opK E mu ops l o.dst K (σ.put (some d) (.v (.bool true))) (.v undef) := by
  simp only [gdB, bsplit_true]; cases want <;> rfl
theorem gdB_false (E : Ev) (mu : List Nat) (ops : Array Oper) (o : Oper) (l : List Oper) (d : Nat) (want : Bool) (K : St → Prop) (σ : St) :
    gdB E mu ops o l d want K σ false = bif want then opK E mu ops l o.dst K (σ.put (some d) (.v (.bool false))) (.v undef) else runO E mu ops o l K (σ.put (some d) (.v (.bool false))) := by
  simp only [gdB, bsplit_false]; cases want <;> rfl
theorem gdB_intro {E : Ev} {mu : List Nat} {ops : Array Oper} {o : Oper} {l : List Oper} {d : Nat} {want : Bool} {K : St → Prop} {σ : St} {c : Bool} (h1 : c = true → gdB E mu ops o l d want K σ true) (h2 : c = false → gdB E mu ops o l d want K σ false) : gdB E mu ops o l d want K σ c := by
  cases c
  · exact h2 rfl
  · exact h1 rfl

/-- Frames that read alike. -/
theorem Cn.same {σ' : St} (hf : ∀ t, lk σ'.fr t = lk σ.fr t) (hh : σ'.hp = σ.hp) (hn : σ'.nx = σ.nx) (hs : σ'.n = σ.n) (h : Cn g β O σ a w) : Cn g β O σ' a w := by
  unfold Cn
  rw [hh, hn, hs, funext hf]
  exact h

theorem put_same {d : Nat} {av : AV} (h : lk σ.fr d = some av) (t : Nat) : lk (σ.put (some d) av).fr t = lk σ.fr t := by
  rw [lk_put]
  simp only [updF]
  by_cases e : d = t
  · subst e; simp [h]
  · rw [show (d == t) = false by simpa using e, cond_false]

/-- What a guard says: the operation is wanted, or it is not. -/
theorem gd_cases {ops : Array Oper} {Y N : St → Prop} (h : gd ops o σ Y N) : ∃ σ' : St, (∀ t, lk σ'.fr t = lk σ.fr t) ∧ σ'.hp = σ.hp ∧ σ'.nx = σ.nx ∧ σ'.n = σ.n ∧
    ((wantedA (lk σ.fr) ops o = some true ∧ Y σ') ∨ (wantedA (lk σ.fr) ops o = some false ∧ N σ')) := by
  unfold gd at h
  unfold wantedA
  split at h
  · rename_i hg
    exact ⟨σ, fun _ => rfl, rfl, rfl, rfl, .inl ⟨by simp [hg], h⟩⟩
  · rename_i j want hg
    split at h
    · rename_i d hd
      split at h
      · rename_i c hl
        obtain ⟨_, h⟩ := h
        have h := bsplit_of h
        refine ⟨σ.put (some d) (.v (.bool c)), put_same hl, rfl, rfl, rfl, ?_⟩
        cases hcw : (c == want) with
        | true => rw [hcw, cond_true] at h; exact .inl ⟨by simp [hg, hd, hl, hcw], h⟩
        | false => rw [hcw, cond_false] at h; exact .inr ⟨by simp [hg, hd, hl, hcw], h⟩
      · rename_i hl
        exact ⟨σ, fun _ => rfl, rfl, rfl, rfl, .inr ⟨by simp [hg, hd, hl], h⟩⟩
      · exact h.elim
    · exact h.elim

theorem opS_ok (hE : EvOk E) (hY : YOk E) (hf : Fit E g σ) {mu : List Nat} {ops : Array Oper} (hc : Cn g β O σ a w) (h : opS E mu ops o σ K) : opAt E.ro E.P ops Q o (NxtP E g K) a w := by
  obtain ⟨hd, h⟩ := h
  obtain ⟨σ', hfr, hh, hn, hs, h⟩ := gd_cases h
  have hc' : Cn g β O σ' a w := hc.same hfr hh hn hs
  unfold opAt
  rcases h with ⟨hw, h⟩ | ⟨hw, h⟩
  · rw [wantedA_ok hc hw, if_pos rfl]
    cases hm : isMut mu o with
    | true =>
      rw [hm, cond_true] at h
      exact mop_ok hE hY (hf.n hs) (by rw [hs]; exact hd) hc' h
    | false =>
      rw [hm, cond_false] at h
      obtain ⟨r, hr, hK⟩ := sop_ok hE h
      exact still_wp hc' (by rw [hs]; exact hd) hr fun a' w' hcf => ⟨g, β, O, _, Le.refl _ _, hf.n ((put_n _ _ _).trans hs), hK, by unfold Cn; rw [lk_put]; cases hdd : o.dst <;> rw [hdd] at hcf <;> exact hcf⟩
  · rw [wantedA_ok hc hw]
    simp only [Bool.false_eq_true, if_false]
    exact ⟨fun f _ => Fn_fn _ f, g, β, O, _, Le.refl _ _, hf.n ((put_n _ _ _).trans hs), h, hc'.put (by rw [hs]; exact hd) (R.vv undef)⟩

theorem wpA_ok (hE : EvOk E) (hY : YOk E) {mu : List Nat} {ops : Array Oper} : ∀ (l : List Oper) (σ : St) (K : St → Prop) (g : Gh) (β : Bt) (O : Nat → Prop) (a : Act) (w : World), Fit E g σ → Cn g β O σ a w → wpA E mu ops l σ K →
    (∀ a' w', NxtP E g K a' w' → Q .normal a' w') → wpListIn (Fn E.ro) 0 E.P ops Q l a w
  | [], σ, K, g, β, O, a, w, hf, hc, h, hK => hK a w ⟨g, β, O, σ, Le.refl _ _, hf, h, hc⟩
  | o :: l, σ, K, g, β, O, a, w, hf, hc, h, hK => by
    have h1 := opS_ok (Q := Q) hE hY hf hc h
    unfold opAt at h1
    unfold wpListIn
    have next : ∀ a' w', NxtP E g (fun σ => wpA E mu ops l σ K) a' w' → wpListIn (Fn E.ro) 0 E.P ops Q l a' w' := fun a' w' ⟨g', β', O', σ', hl, hf', h2, hc'⟩ =>
      wpA_ok hE hY l σ' K g' β' O' a' w' hf' hc' h2 fun a'' w'' ⟨g'', β'', O'', σ'', hl', h3⟩ => hK a'' w'' ⟨g'', β'', O'', σ'', hl.trans hl', h3⟩
    split
    · rename_i hw
      rw [if_pos hw] at h1
      exact Oper.wpIn_mono next h1
    · rename_i hw
      rw [if_neg hw] at h1
      exact ⟨h1.1, next _ _ h1.2⟩

/-- The head of still operations, taken apart. -/
theorem wpA_lex (hE : EvOk E) {mu : List Nat} {ops : Array Oper} : ∀ (l l' : List Oper) (σ : St) (K : St → Prop), (∀ o ∈ l, isMut mu o = false) → wpA E mu ops (l ++ l') σ K →
    ∃ rs σ', Lex E.P ops σ.hp σ.nx σ.n l (lk σ.fr) rs ∧ (∀ k t, lk σ'.fr t = foldX (fun _ => true) k l rs (lk σ.fr) t) ∧ σ'.hp = σ.hp ∧ σ'.nx = σ.nx ∧ σ'.n = σ.n ∧ wpA E mu ops l' σ' K
  | [], l', σ, K, _, h => ⟨[], σ, rfl, fun _ _ => rfl, rfl, rfl, rfl, h⟩
  | o :: l, l', σ, K, hm, h => by
    obtain ⟨hd, h⟩ := h
    obtain ⟨σ1, hf, hh, hn, hs, h⟩ := gd_cases h
    have main : ∀ r, Yf E.P ops σ.hp σ.nx o (lk σ.fr) r → wpA E mu ops (l ++ l') (σ1.put o.dst r) K →
        ∃ rs σ', Lex E.P ops σ.hp σ.nx σ.n (o :: l) (lk σ.fr) rs ∧ (∀ k t, lk σ'.fr t = foldX (fun _ => true) k (o :: l) rs (lk σ.fr) t) ∧ σ'.hp = σ.hp ∧ σ'.nx = σ.nx ∧ σ'.n = σ.n ∧ wpA E mu ops l' σ' K := by
      intro r hy hw
      have hlk : lk (σ1.put o.dst r).fr = updF (lk σ.fr) o.dst r := by rw [lk_put, funext hf]
      have hph : (σ1.put o.dst r).hp = σ.hp := by rw [← hh]; cases o.dst <;> rfl
      have hpn : (σ1.put o.dst r).nx = σ.nx := by rw [← hn]; cases o.dst <;> rfl
      have hps : (σ1.put o.dst r).n = σ.n := by rw [← hs]; cases o.dst <;> rfl
      obtain ⟨rs, σ', g1, g2, g3, g4, g5, g6⟩ := wpA_lex hE l l' _ K (fun o' ho' => hm o' (by simp [ho'])) hw
      rw [hlk, hph, hpn, hps] at g1
      refine ⟨r :: rs, σ', ⟨r, rs, rfl, hd, hy, g1⟩, fun k t => ?_, g3.trans hph, g4.trans hpn, g5.trans hps, g6⟩
      rw [g2 (k + 1) t, hlk]
      rfl
    rcases h with ⟨hw, h⟩ | ⟨hw, h⟩
    · rw [hm o (by simp), cond_false] at h
      obtain ⟨r, hr, hfl, hK⟩ := flo_ok hE h
      have : σ1.ge = geF (lk σ.fr) := by unfold St.ge; rw [funext hf]
      rw [this, hh, hn] at hr
      rw [this] at hfl
      exact main r ⟨.inl ⟨hw, hr⟩, hfl⟩ hK
    · exact main _ ⟨.inr ⟨hw, rfl⟩, fun hfl => by simp [wantedA, floB_guard hfl] at hw⟩ h

/-! ### code -/
structure Post where
  n : St → Prop
  x : Nat → St → Prop
  r : St → Prop

def PC (E : Ev) (g : Gh) (Q : Post) (e : Exit) (a : Act) (w : World) : Prop :=
  match e with
  | .normal => NxtP E g Q.n a w
  | .exit id => NxtP E g (Q.x id) a w
  | .ret => NxtP E g Q.r a w
  | _ => False

theorem NxtP.mono {K K' : St → Prop} {g g' : Gh} {a : Act} {w : World} (h : NxtP E g' K a w) (hl : Le E g g') (hk : ∀ σ, K σ → K' σ) : NxtP E g K' a w :=
  let ⟨g'', β, O, σ, h1, h2, h3, h4⟩ := h
  ⟨g'', β, O, σ, hl.trans h1, h2, hk σ h3, h4⟩

theorem PC.le {g g' : Gh} {Q : Post} {e : Exit} {a : Act} {w : World} (h : PC E g' Q e a w) (hl : Le E g g') : PC E g Q e a w := by
  cases e <;> first | exact NxtP.mono h hl (fun _ h => h) | exact h.elim

/-- From a state: what the code comes to. -/
def VC (E : Ev) (mu : List Nat) (c : Code) (Q : Post) (σ : St) : Prop := YOk E → ∀ (g : Gh) (β : Bt) (O : Nat → Prop) (a : Act) (w : World), Fit E g σ → Cn g β O σ a w → c.wpIn (Fn E.ro) 0 E.P (PC E g Q) a w

end

section
variable {E : Ev} {mu : List Nat} {Q : Post} {σ : St}

theorem vc_seq {x y : Code} (h : VC E mu x { n := fun σ => VC E mu y Q σ, x := Q.x, r := Q.r } σ) : VC E mu (.seq x y) Q σ := by
  intro hY g β O a w hf hc
  refine wpIn_seq (wpIn_mono (h hY g β O a w hf hc) fun e a w hq => ?_)
  cases e with
  | normal => obtain ⟨g', β', O', σ', hl, hf', h1, h2⟩ := hq; exact wpIn_mono (h1 hY g' β' O' _ _ hf' h2) fun e a w hq => hq.le hl
  | exit id => exact hq
  | ret => exact hq
  | _ => exact hq.elim

theorem vc_skip (h : Q.n σ) : VC E mu .skip Q σ := fun hY g β O a w hf hc => wpIn_skip ⟨g, β, O, σ, Le.refl _ _, hf, h, hc⟩
theorem vc_ret (h : Q.r σ) : VC E mu .ret Q σ := fun hY g β O a w hf hc => wpIn_ret ⟨g, β, O, σ, Le.refl _ _, hf, h, hc⟩
theorem vc_exit {id : Nat} (h : Q.x id σ) : VC E mu (.exit id) Q σ := fun hY g β O a w hf hc => wpIn_exit ⟨g, β, O, σ, Le.refl _ _, hf, h, hc⟩

theorem vc_block {id : Nat} {c : Code} (h : VC E mu c { n := Q.n, x := fun j σ => if j = id then Q.n σ else Q.x j σ, r := Q.r } σ) : VC E mu (.block id c) Q σ := by
  intro hY g β O a w hf hc
  refine wpIn_block (wpIn_mono (h hY g β O a w hf hc) fun e a w hq => ?_)
  cases e with
  | normal => exact hq
  | exit j =>
    simp only [Exit.inBlock]
    by_cases e : j = id
    · rw [if_pos e]; exact NxtP.mono hq (Le.refl _ _) fun σ h => by dsimp only at h; rwa [if_pos e] at h
    · rw [if_neg e]; exact NxtP.mono hq (Le.refl _ _) fun σ h => by dsimp only at h; rwa [if_neg e] at h
  | ret => exact hq
  | _ => exact hq.elim

theorem vc_cond {c : Operand} {x y : Code} {b : Bool} (hb : σ.ge c = .v (.bool b)) (ht : b = true → VC E mu x Q σ) (hf : b = false → VC E mu y Q σ) : VC E mu (.cond c x y) Q σ := by
  intro hY g β O a w hfit hc
  have : a.eval c = .bool b := (show R β O w (.v (.bool b)) (a.eval c) from hb ▸ hc.ge c).v_inv
  exact wpIn_cond_split this (fun h => ht h hY g β O a w hfit hc) (fun h => hf h hY g β O a w hfit hc)

theorem vc_region (hE : EvOk E) {id : Nat} {l : List Oper} (h : ∀ K : St → Prop, (∀ σ', Q.n σ' → K σ') → wpA E mu l.toArray l σ K) : VC E mu (.region id l.toArray false) Q σ := by
  intro hY g β O a w hf hc
  refine wpIn_region_list (by simpa using wpA_ok (Q := PC E g Q) hE hY l σ Q.n g β O a w hf hc (h Q.n fun _ h => h) (fun a' w' hq => hq))

def drawB (fl : Bool) (mu : List Nat) (l : List Oper) (h : Nat) : Bool := ordB fl l.toArray h && (l.take h).all fun o => !isMut mu o

theorem vc_draw (hE : EvOk E) {fl : Bool} (hro : fl = true → E.ro = none) {id : Nat} {l : List Oper} (k : Nat) (hb : drawB fl mu l k = true) (h : ∀ K : St → Prop, (∀ σ', Q.n σ' → K σ') → wpA E mu l.toArray l σ K) : VC E mu (.region id l.toArray true) Q σ := by
  intro hY g β O a w hf hc
  simp only [drawB, Bool.and_eq_true, List.all_eq_true] at hb
  have h0 := h Q.n fun _ h => h
  rw [show wpA E mu l.toArray l σ Q.n = wpA E mu l.toArray (l.take k ++ l.drop k) σ Q.n by rw [List.take_append_drop]] at h0
  obtain ⟨rs, σ', h1, h2, h3, h4, h5, h6⟩ := wpA_lex hE (l.take k) (l.drop k) σ Q.n (fun o ho => by simpa using hb.2 o ho) h0
  refine region_draw hro hE.mix (h := k) hb.1 (rs := rs) (fun c a w hq => hq) (by simpa using h1) (fun a' w' hc' => ?_) hc
  have hcn : Cn g β O σ' a' w' := by
    unfold Cn
    rw [h3, h4, h5, funext (h2 0)]
    simpa using hc'
  simpa using wpA_ok (Q := PC E g Q) hE hY (l.drop k) σ' Q.n g β O a' w' (hf.n h5) hcn h6 (fun a' w' hq => hq)

/-- What a state may be taken for. -/
structure Ent (σ σ' : St) : Prop where
  n : σ'.n = σ.n
  run : ∀ (g : Gh) (β : Bt) (O : Nat → Prop) (a : Act) (w : World), Cn g β O σ a w → ∃ β' O', Cn g β' O' σ' a w

theorem vc_ent {c : Code} {σ' : St} (he : Ent σ σ') (h : VC E mu c Q σ') : VC E mu c Q σ := fun hY g β O a w hf hc =>
  let ⟨β', O', hc'⟩ := he.2 g β O a w hc
  h hY g β' O' a w (hf.n he.1) hc'

theorem NxtP.ent {K K' : St → Prop} {g : Gh} {a : Act} {w : World} (h : NxtP E g K a w) (hk : ∀ σ, K σ → ∃ σ', Ent σ σ' ∧ K' σ') : NxtP E g K' a w := by
  obtain ⟨g', β', O', σ', hl, hf, h1, h2⟩ := h
  obtain ⟨σ'', he, h1⟩ := hk σ' h1
  obtain ⟨β'', O'', h2⟩ := he.2 g' β' O' _ _ h2
  exact ⟨g', β'', O'', σ'', hl, hf.n he.1, h1, h2⟩

theorem vc_mono {c : Code} {Q' : Post} (h : VC E mu c Q' σ) (hn : ∀ σ, Q'.n σ → ∃ σ', Ent σ σ' ∧ Q.n σ') (hx : ∀ id σ, Q'.x id σ → ∃ σ', Ent σ σ' ∧ Q.x id σ') (hr : ∀ σ, Q'.r σ → ∃ σ', Ent σ σ' ∧ Q.r σ') : VC E mu c Q σ := by
  intro hY g β O a w hf hc
  refine wpIn_mono (h hY g β O a w hf hc) fun e a w hq => ?_
  cases e with
  | normal => exact NxtP.ent hq hn
  | exit id => exact NxtP.ent hq (hx id)
  | ret => exact NxtP.ent hq hr
  | _ => exact hq.elim

theorem least {p : Nat → Prop} : ∀ (n : Nat), p n → ∃ k, p k ∧ ∀ m, p m → k ≤ m := by
  intro n
  induction n using Nat.strongRecOn with
  | _ n ih =>
    intro hn
    by_cases h : ∃ m, m < n ∧ p m
    · obtain ⟨m, hm, hp⟩ := h
      exact ih m hm hp
    · exact ⟨n, hn, fun m hp => by
        rcases Nat.lt_or_ge m n with h' | h'
        · exact absurd ⟨m, h', hp⟩ h
        · exact h'⟩

/-- **A loop**: a state for every x of X, a measure. -/
theorem vc_loop {c : Code} {X : Type} (S : X → St) (φ : X → Prop) (μ : X → Nat) (x0 : X) (h0 : φ x0) (he : Ent σ (S x0))
    (step : ∀ x, φ x → VC E mu c { n := fun σ' => ∃ x', Ent σ' (S x') ∧ φ x' ∧ μ x' < μ x, x := Q.x, r := Q.r } (S x)) : VC E mu (.loop c) Q σ := by
  intro hY g β O a w hf hc
  let I : Act → World → Prop := fun a w => ∃ x g' β O, Le E g g' ∧ Fit E g' (S x) ∧ φ x ∧ Cn g' β O (S x) a w
  let B : Act → World → Nat → Prop := fun a w n => ∃ x g' β O, Le E g g' ∧ Fit E g' (S x) ∧ φ x ∧ Cn g' β O (S x) a w ∧ μ x ≤ n
  have hmin : ∀ a w, ∃ n, (∃ n, B a w n) → (B a w n ∧ ∀ k, B a w k → n ≤ k) := fun a w => by
    by_cases h : ∃ n, B a w n
    · obtain ⟨n, hn⟩ := h
      obtain ⟨k, h1, h2⟩ := least (p := B a w) n hn
      exact ⟨k, fun _ => ⟨h1, h2⟩⟩
    · exact ⟨0, fun h' => absurd h' h⟩
  let m : Act → World → Nat := fun a w => (hmin a w).choose
  have hI : I a w := by
    obtain ⟨β', O', hc'⟩ := he.2 g β O a w hc
    exact ⟨x0, g, β', O', Le.refl _ _, hf.n he.1, h0, hc'⟩
  refine wpIn_loop I m hI ?_
  intro a w ⟨x1, g1, β1, O1, hl1, hf1, hφ1, hc1⟩
  have hex : ∃ n, B a w n := ⟨μ x1, x1, g1, β1, O1, hl1, hf1, hφ1, hc1, Nat.le_refl _⟩
  obtain ⟨⟨x, gx, β, O, hl, hf, hφ, hc, hle⟩, _⟩ := (hmin a w).choose_spec hex
  refine wpIn_mono (step x hφ hY gx β O a w hf hc) fun e a' w' hq => ?_
  cases e with
  | normal =>
    obtain ⟨g', β', O', σ', hl', hf', ⟨x', he', hφ', hlt⟩, hc'⟩ := hq
    obtain ⟨β'', O'', hc''⟩ := he'.2 g' β' O' _ _ hc'
    refine ⟨⟨x', g', β'', O'', hl.trans hl', hf'.n he'.1, hφ', hc''⟩, ?_⟩
    have hb : B a' w' (μ x') := ⟨x', g', β'', O'', hl.trans hl', hf'.n he'.1, hφ', hc'', Nat.le_refl _⟩
    have h1 := ((hmin a' w').choose_spec ⟨_, hb⟩).2 (μ x') hb
    exact Nat.lt_of_le_of_lt h1 (Nat.lt_of_lt_of_le hlt hle)
  | exit id => exact NxtP.mono hq hl (fun _ h => h)
  | ret => exact NxtP.mono hq hl (fun _ h => h)
  | _ => exact hq.elim

/-- A loop, one round ahead of the rest. -/
theorem vc_cut {x y : Code} {X : Type} (S : X → St) (φ : X → Prop) (hx : VC E mu x { n := fun σ' => ∃ z, Ent σ' (S z) ∧ φ z, x := Q.x, r := Q.r } σ) (hy : ∀ z, φ z → VC E mu y Q (S z)) : VC E mu (.seq x y) Q σ := by
  have er : ∀ σ : St, Ent σ σ := fun σ => ⟨rfl, fun g β O a w hc => ⟨β, O, hc⟩⟩
  refine vc_seq (vc_mono hx (fun σ' ⟨z, he, hz⟩ => ⟨S z, he, hy z hz⟩) (fun id σ' h => ⟨σ', er _, h⟩) (fun σ' h => ⟨σ', er _, h⟩))

end
end Go.Ab

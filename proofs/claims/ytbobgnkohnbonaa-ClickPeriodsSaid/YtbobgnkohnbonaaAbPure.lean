/- The abstract machine, part 14: contracts of functions; from the walk of a body to the contract; calls that are walked into. -/
import Derived.Test.YtbobgnkohnbonaaAbFn
set_option linter.unusedSimpArgs false
set_option linter.unusedVariables false
namespace Go.Ab
open Go.RowKit

/-- **A function's contract**: at these data it returns this datum; nothing that was there is changed; what is made of what avoids O avoids O. -/
structure Pure (P : Program) (f : FuncId) (avs : List AV) (r : AV) : Prop where
  can : Callable P f
  run : ∀ (O : Nat → Prop) (w : World) (vs : Array Value), Rps O w avs vs → (∀ b, O b → b < w.heap.size) → Calls P f vs w (fun e w' => ∃ u, e = .returned u ∧ Gr w w' ∧ Rp O w' r u)

theorem rps_of {β : Bt} {O : Nat → Prop} {w : World} {avs avs' : List AV} {vs : Array Value} (h : Rs β O w avs vs) (hs : SbL avs avs') (hp : plainL avs' = true) : Rps O w avs' vs := by
  obtain ⟨hl, hg⟩ := hs.get
  refine ⟨by rw [h.1, hl], fun i a ha => ?_⟩
  have hi : i < avs.length := by rw [← hl]; exact (List.getElem?_eq_some_iff.1 ha).1
  obtain ⟨u, h1, h2⟩ := h.2 i avs[i] (List.getElem?_eq_getElem hi)
  exact ⟨u, h1, (hg i _ a (List.getElem?_eq_getElem hi) ha _ _ _ _ h2).plain (plainL_get hp ha)⟩

/-- A call by contract. -/
theorem call_pure {P : Program} {f : FuncId} {H : Hp} {nx : Nat} {avs avs' : List AV} {r : AV} {K : AV → Prop} (h : Pure P f avs' r) (hs : SbL avs avs') (hp : plainL avs' = true) (hK : K r) : callS P f H nx avs K := by
  refine ⟨r, ⟨h.can, fun B0 O0 β O w vs hc hB hr => ?_⟩, hK⟩
  refine (h.run O w vs (rps_of hr hs hp) fun b hb => ?_).mono fun e w' ⟨u, h1, h2, h3⟩ => ⟨u, h1, h2, .pl _ _ h3⟩
  exact hc.own b hb

theorem call_pure' {P : Program} {f : FuncId} {H : Hp} {nx : Nat} {avs : List AV} {r : AV} {K : AV → Prop} (h : Pure P f avs r) (hp : plainL avs = true) (hK : K r) : callS P f H nx avs K := call_pure h (SbL.refl _) hp hK

/-! ### results -/
def resL (T : Tab) (H : Hp) (fr : List (Nat × AV)) : List ResultVar → (List AV → Prop) → Prop
  | [], K => K []
  | r :: l, K => match r with
    | .tmp t => match lk fr t with
      | some a => resL T H fr l fun as => K (a :: as)
      | none => False
    | .cell t ty => match lk fr t with
      | some a => loadA T H ty a fun v => resL T H fr l fun as => K (v :: as)
      | none => False

def resA (as : List AV) : AV :=
  match as with
  | [a] => a
  | as => .tu as

theorem loadA_res {T : Tab} {H : Hp} {t : TypeId} {x : AV} {K : AV → Prop} (h : loadA T H t x K) : ∃ r, K r ∧ loadA T H t x (fun a => a = r) := by
  unfold loadA at *
  split at h
  · split at h
    · exact cellsK_res h
    · split at h
      · exact cellsK_res h
      · exact h.elim
    · exact h.elim
  · exact h.elim

theorem load_run {E : Ev} (hE : EvOk E) {B0 : Nat → Prop} {O0 : Nat → Prop} {β : Bt} {O : Nat → Prop} {H : Hp} {nx : Nat} {w : World} (hh : HC B0 O0 β O H nx w) {t : TypeId} {x : AV} {v : Value} (hx : R β O w x v) {r : AV} (h : loadA E.T H t x (fun a => a = r)) :
    ∃ ad, v = .pointer (some ad) ∧ ∃ u, (loadVar t ad).run E.P w = .ok u w ∧ R β O w r u := by
  unfold loadA at h
  split at h
  · rename_i ti ht
    split at h
    · rename_i cs i
      obtain ⟨b, off, _, _, rfl, hcell⟩ := hx.pt_inv
      obtain ⟨_, rfl, u, h1, h2⟩ := load_cells hE ht (β := β) (O := O) (w := w) (b := b) (off := off) (fun j c hc => let ⟨y, a, p⟩ := hcell j c hc; ⟨y, a, .pl _ _ p⟩) h
      exact ⟨_, rfl, u, by simpa [Instr.loadAt, Instr.sureAddr] using h1, h2⟩
    · rename_i k off
      split at h
      · rename_i c hk
        obtain ⟨b, st, hb, rfl⟩ := hx.lp_inv
        rcases hh.row k c hk with ⟨hn, _⟩ | ⟨b', st', hb', _, _, hrow⟩
        · rw [hb] at hn; cases hn
        · rw [hb] at hb'; cases hb'
          obtain ⟨_, rfl, u, h1, h2⟩ := load_cells hE ht (β := β) (O := O) (w := w) (b := b) (off := st) (fun j c hc => hrow.cell hc) h
          exact ⟨_, rfl, u, by simpa [Instr.loadAt, Instr.sureAddr] using h1, h2⟩
      · exact h.elim
    · exact h.elim
  · exact h.elim

theorem resL_run {E : Ev} (hE : EvOk E) {g : Gh} {β : Bt} {O : Nat → Prop} {σ : St} {a : Act} {w : World} (hc : Cn g β O σ a w) : ∀ (l : List ResultVar) (K : List AV → Prop), resL E.T σ.hp σ.fr l K →
    ∃ as vs, K as ∧ (l.mapM (fun | .tmp t => pure (a.tmps.getD t undef) | .cell ad t => do loadVar t (← asAddr (a.tmps.getD ad undef)) : ResultVar → Sem Value) : Sem (List Value)).run E.P w = .ok vs w ∧ Rs β O w as vs.toArray
  | [], K, h => ⟨[], [], h, rfl, ⟨rfl, fun i a h => by simp at h⟩⟩
  | r :: l, K, h => by
    have get : ∀ t av, lk σ.fr t = some av → R β O w av (a.tmps.getD t undef) := by
      intro t av ht
      obtain ⟨u, h1, h2⟩ := hc.fr t av ht
      rw [Array.getD_eq_getD_getElem?, h1]
      exact h2
    have cons : ∀ (av : AV) (v : Value) (as : List AV) (vs : List Value), R β O w av v → Rs β O w as vs.toArray → Rs β O w (av :: as) (v :: vs).toArray := by
      intro av v as vs h1 h2
      refine ⟨by have := h2.1; simp at this ⊢; exact this, fun i b hb => ?_⟩
      cases i with
      | zero => simp at hb; subst hb; exact ⟨v, rfl, h1⟩
      | succ i => simpa using h2.2 i b (by simpa using hb)
    unfold resL at h
    split at h
    · rename_i t
      split at h
      · rename_i av hav
        obtain ⟨as, vs, h1, h2, h3⟩ := resL_run hE hc l _ h
        refine ⟨av :: as, a.tmps.getD t undef :: vs, h1, ?_, cons _ _ _ _ (get _ _ hav) h3⟩
        rw [List.mapM_cons, Sem.run_bind]
        simp only [Sem.run_pure, Result.andThen_ok, Sem.run_bind, h2]
      · exact h.elim
    · rename_i t ty
      split at h
      · rename_i av hav
        obtain ⟨r, h, hl⟩ := loadA_res h
        obtain ⟨as, vs, h1, h2, h3⟩ := resL_run hE hc l _ h
        obtain ⟨ad, hv, u, g1, g2⟩ := load_run hE hc.hc (get _ _ hav) hl
        refine ⟨r :: as, u :: vs, h1, ?_, cons _ _ _ _ g2 h3⟩
        rw [List.mapM_cons, Sem.run_bind]
        have hasA : (asAddr (a.tmps.getD t undef)).run E.P w = .ok ad w := by rw [hv]; rfl
        simp only [Sem.run_pure, Result.andThen_ok, Sem.run_bind, hasA, g1, h2]
      · exact h.elim

theorem results_run {E : Ev} (hE : EvOk E) {g : Gh} {β : Bt} {O : Nat → Prop} {σ : St} {a : Act} {w : World} (hc : Cn g β O σ a w) {fn : Func} {K : AV → Prop} (h : resL E.T σ.hp σ.fr fn.results.toList fun as => K (resA as)) :
    ∃ r v, K r ∧ (results fn a.tmps).run E.P w = .ok v w ∧ R β O w r v := by
  obtain ⟨as, vs, h1, h2, h3⟩ := resL_run hE hc _ _ h
  have hrun : (results fn a.tmps).run E.P w = .ok (if h : vs.toArray.size = 1 then vs.toArray[0] else .tuple vs.toArray) w := by
    unfold results
    rw [Sem.run_bind, Array.mapM_eq_mapM_toList, Sem.run_map]
    erw [h2]
    rfl
  have hl : vs.length = as.length := by simpa using h3.1
  by_cases h0 : ∃ x, as = [x]
  · obtain ⟨x, rfl⟩ := h0
    obtain ⟨v, rfl⟩ := List.length_eq_one_iff.1 (by simpa using hl)
    refine ⟨x, v, h1, by rw [hrun]; simp, ?_⟩
    obtain ⟨u, p, q⟩ := h3.2 0 x rfl
    simp at p
    exact p ▸ q
  · have e : resA as = .tu as := by
      cases as with
      | nil => rfl
      | cons x l =>
        cases l with
        | nil => exact absurd ⟨x, rfl⟩ h0
        | cons y l => rfl
    have hne : ¬ vs.toArray.size = 1 := by
      intro h'
      have : as.length = 1 := by rw [← hl]; simpa using h'
      exact h0 (by obtain ⟨x, hx⟩ := List.length_eq_one_iff.1 this; exact ⟨x, hx⟩)
    refine ⟨_, .tuple vs.toArray, h1, by rw [hrun, dif_neg hne], ?_⟩
    rw [e]
    exact R.mk_tu h3.1 h3.2

/-! ### from the walk to the contract -/
def entryFr : Nat → List AV → List (Nat × AV)
  | _, [] => []
  | k, a :: l => (k, a) :: entryFr (k + 1) l

theorem lk_entry : ∀ (l : List AV) (k t : Nat) (av : AV), lk (entryFr k l) t = some av → k ≤ t ∧ l[t - k]? = some av
  | [], k, t, av, h => by simp [entryFr, lk] at h
  | a :: l, k, t, av, h => by
    simp only [entryFr, lk] at h
    by_cases e : k = t
    · subst e
      simp only [BEq.rfl, cond_true, Option.some.injEq] at h
      subst h
      exact ⟨Nat.le_refl _, by simp⟩
    · rw [show (k == t) = false by simpa using e, cond_false] at h
      obtain ⟨h1, h2⟩ := lk_entry l (k + 1) t av h
      refine ⟨by omega, ?_⟩
      obtain ⟨d, rfl⟩ : ∃ d, t = k + 1 + d := ⟨t - (k + 1), by omega⟩
      rw [show k + 1 + d - k = d + 1 by omega]
      rw [show k + 1 + d - (k + 1) = d by omega] at h2
      simpa using h2

def emp : Hp := fun _ => none

/-- The state in which a function's text begins. -/
def entry (avs : List AV) (n : Nat) : St := { fr := entryFr 0 avs, hp := emp, nx := 0, n := (n, 0, 0) }

/-- What is asked at a return. -/
def retP (E : Ev) (fn : Func) (r : AV) (σ : St) : Prop := ∃ σ', Ent σ σ' ∧ resL E.T σ'.hp σ'.fr fn.results.toList fun as => (resA as).plain = true ∧ Sb (resA as) r ∧ r.plain = true

theorem entry_cf {g : Gh} {β : Bt} {O : Nat → Prop} {H : Hp} {nx p : Nat} {w : World} {avs : List AV} {vs : Array Value} {m : Nat} (hr : Rs β O w avs vs) (hc : HC g.B0 g.O0 β O H nx w) (hb : g.inv O w) (h0 : Bk g.B0 w) (hp : g.p ≤ p)
    (hpr : ∀ k q, g.βp k = some q → β k = some q) (ht : Tr g.Op g.wp O w) : Cn g β O { fr := entryFr 0 avs, hp := H, nx := nx, n := (m, p, 0) } { tmps := vs ++ Array.replicate (m - vs.size) undef, defers := [] } w := by
  refine ⟨DefOk.nil _ _ _ _, fun t av h => ?_, by simp; omega, hc, hb, h0, hp, hpr, ht⟩
  obtain ⟨_, h2⟩ := lk_entry _ _ _ _ h
  obtain ⟨u, h3, h4⟩ := hr.2 _ _ h2
  have hlt : t < vs.size := (Array.getElem?_eq_some_iff.1 h3).1
  exact ⟨u, by rw [Array.getElem?_append_left (by simpa using hlt)]; exact h3, h4⟩

/-! ### the mark of a range over a function, at a function's end -/
theorem cell_dead {w : World} {D : Nat} {x : Option (List Deferred)} (hD : w.heap[D]? = some (.deferred x)) (o : Obj) {b i : Nat} {v : Value} (h : w.cell? ⟨b, i, none⟩ = some v) : (w.putObj D o).cell? ⟨b, i, none⟩ = some v := by
  have hne : b ≠ D := by
    intro e; subst e
    simp [World.cell?, hD] at h
  rw [World.cell?_of_block (w := w) (a := ⟨b, i, none⟩) (World.putObj_heap_other hne)]
  exact h

theorem Rp.dead {O : Nat → Prop} {w : World} {D : Nat} {x : Option (List Deferred)} (hD : w.heap[D]? = some (.deferred x)) (o : Obj) {a : AV} {u : Value} (h : Rp O w a u) : Rp O (w.putObj D o) a u := by
  induction h with
  | v x => exact .v x
  | nil sz => exact .nil sz
  | sl sz n cs b off cap f hO hb hn hl hc hr ih => exact .sl sz n cs b off cap f hO (by simpa using hb) hn hl (fun i c h => cell_dead hD o (hc i c h)) ih
  | pt cs i b off f hO hb hc hr ih => exact .pt cs i b off f hO (by simpa using hb) (fun i c h => cell_dead hD o (hc i c h)) ih
  | ag cs us f hs hu hr ih => exact .ag cs us f hs hu ih
  | tu cs us f hs hu hr ih => exact .tu cs us f hs hu ih
  | fn fn cs ds us vs f g hs ht hu hr hv hq ih1 ih2 => exact .fn fn cs ds us vs f g hs ht hu ih1 hv ih2
  | ic t x u h ih => exact .ic t x u ih

theorem R.dead {β : Bt} {O : Nat → Prop} {w : World} {D : Nat} {x : Option (List Deferred)} (hD : w.heap[D]? = some (.deferred x)) (o : Obj) {a : AV} {u : Value} (h : R β O w a u) : R β O (w.putObj D o) a u := by
  induction h with
  | pl a u h => exact .pl a u (h.dead hD o)
  | any u => exact .any u
  | ag cs us f hs hu hr ih => exact .ag cs us f hs hu ih
  | tu cs us f hs hu hr ih => exact .tu cs us f hs hu ih
  | fn fn cs ds us vs f g hs ht hu hr hv hq ih1 ih2 => exact .fn fn cs ds us vs f g hs ht hu ih1 hv ih2
  | ic t x u h ih => exact .ic t x u ih
  | lp k off b st hk => exact .lp k off b st hk
  | lsn k off sz a hk ha => exact .lsn k off sz a hk (fun ad h => let ⟨b, of, e, ho, hb⟩ := ha ad h; ⟨b, of, e, ho, by simpa using hb⟩)
  | ls k off sz n b st cap hk hn' hsz =>
    obtain ⟨arr, e, fz, h1, h2⟩ := hsz
    exact .ls k off sz n b st cap hk hn' ⟨arr, e, fz, by rw [World.putObj_heap_other (fun e => by subst e; rw [hD] at h1; cases h1)]; exact h1, h2⟩

theorem HC.dead {B0 O0 : Nat → Prop} {β : Bt} {O : Nat → Prop} {H : Hp} {nx : Nat} {w : World} {D : Nat} {x : Option (List Deferred)} (hD : w.heap[D]? = some (.deferred x)) (o : Obj) (h : HC B0 O0 β O H nx w) : HC B0 O0 β O H nx (w.putObj D o) := by
  refine ⟨fun k c hk => ?_, h.inj, fun b hb => by simpa using h.own b hb, h.base, h.free, h.fresh⟩
  rcases h.row k c hk with h1 | ⟨b, st, h1, h2, h3, arr, e, h4, h5, h6⟩
  · exact .inl h1
  · exact .inr ⟨b, st, h1, h2, h3, arr, e, by rw [World.putObj_heap_other (fun e => by subst e; rw [hD] at h4; cases h4)]; exact h4, h5, fun j y hj => let ⟨u, p, q⟩ := h6 j y hj; ⟨u, p, q.dead hD o⟩⟩

/-- The world behind the marks. -/
inductive ShutW (B O : Nat → Prop) (w : World) : World → Prop where
  | refl : ShutW B O w w
  | step (w1 : World) (D : Nat) (h : ShutW B O w w1) (hO : ¬ O D) (hB : ¬ B D) (hD : w1.heap[D]? = some (.deferred (some []))) : ShutW B O w (w1.putObj D (.deferred none))

/-- A ghost that asks nothing. -/
def Gh.none (B0 O0 O : Nat → Prop) (w : World) : Gh := { B0, O0, inv := fun _ _ => True, mark := True, stab := fun _ _ _ _ _ _ _ => True.intro, p := 0, βp := fun _ => .none, Op := O, wp := w, hp := fun _ _ => rfl }

theorem shut_list {E : Ev} {B0 O0 : Nat → Prop} {β : Bt} {O : Nat → Prop} {σ : St} {tmps : Array Value} {w0 : World} : ∀ (Ds : List Nat) (w : World), ShutW B0 O w0 w → Ds.Nodup → (∀ D ∈ Ds, ¬ O D ∧ ¬ B0 D ∧ w.heap[D]? = some (.deferred (some []))) →
    (∀ t av, lk σ.fr t = some av → ∃ u, tmps[t]? = some u ∧ R β O w av u) → σ.n.1 ≤ tmps.size → HC B0 O0 β O σ.hp σ.nx w → Bk B0 w → ∃ w2, ShutW B0 O w0 w2 ∧ Cn (Gh.none B0 O0 O w2) β O σ { tmps := tmps, defers := [] } w2 ∧
    (∀ (fn : Func) (R : Ending → World → Prop), LeavesIn Fence.wide 0 E.P fn tmps R [] .returning w2 → LeavesInM Fence.wide 0 E.P fn tmps R (Ds.map mark1) .returning w)
  | [], w, hs, _, _, hfr, hsz, hh, hb => ⟨w, hs, ⟨DefOk.nil _ _ _ _, hfr, hsz, hh, True.intro, hb, Nat.zero_le _, fun k q hq => (by cases hq), Tr.refl _ _⟩, fun fn R hl => hl⟩
  | D :: Ds, w, hs, hn, hD, hfr, hsz, hh, hb => by
    obtain ⟨h2, h3, h4⟩ := hD D (by simp)
    have hn' := List.nodup_cons.1 hn
    obtain ⟨w2, g1, g2, g3⟩ := shut_list (E := E) (B0 := B0) (O0 := O0) (β := β) (O := O) (σ := σ) (tmps := tmps) (w0 := w0) Ds (w.putObj D (.deferred none)) (.step w D hs h2 h3 h4) hn'.2
      (fun D' hD' => let ⟨p, q, r⟩ := hD D' (by simp [hD']); ⟨p, q, by rw [World.putObj_heap_other (fun e => hn'.1 (by subst e; exact hD'))]; exact r⟩)
      (fun t av ht => let ⟨u, p, q⟩ := hfr t av ht; ⟨u, p, q.dead h4 _⟩) hsz (hh.dead h4 _) (fun b h => by simpa using hb b h)
    exact ⟨w2, g1, g2, fun fn R hl => ⟨by simp, .inl ⟨D, _, rfl, run_takeDeferred h4, g3 fn R hl⟩⟩⟩

theorem shut {E : Ev} {g : Gh} {β : Bt} {O : Nat → Prop} {σ : St} {a : Act} {w : World} (hc : Cn g β O σ a w) : ∃ w2, ShutW g.B0 O w w2 ∧ Cn (Gh.none g.B0 g.O0 O w2) β O σ { a with defers := [] } w2 ∧
    (∀ (fn : Func) (R : Ending → World → Prop), LeavesIn Fence.wide 0 E.P fn a.tmps R [] .returning w2 → LeavesInM Fence.wide 0 E.P fn a.tmps R a.defers .returning w) := by
  obtain ⟨Ds, h1, h2, h3⟩ := hc.defers.ds
  rw [h1]
  exact shut_list Ds w .refl h2 h3 hc.fr hc.sz hc.hc hc.b0

theorem ShutW.gr {B O : Nat → Prop} {w0 w w2 : World} (h : ShutW B O w w2) (hb : ∀ b, b < w0.heap.size → B b) (hg : Gr w0 w) : Gr w0 w2 := by
  induction h with
  | refl => exact hg
  | step w1 D _ _ h2 _ ih => exact ⟨ih.os, ih.tape, ih.output, by simpa using ih.size, fun k hk => (World.putObj_heap_other (fun e => h2 (by subst e; exact hb _ hk))).trans (ih.block k hk)⟩

theorem pure_of_vc {E : Ev} (hE : EvOk E) (hro : E.ro = none) (hYn : E.Y = none) {mu : List Nat} {f : FuncId} {fn : Func} {c : Code} {avs : List AV} {r : AV} {Q : Post} (hf : E.P.funcs[f]? = some fn) (hb : fn.body = some c) (hcan : Callable E.P f)
    (hQr : Q.r = retP E fn r) (hQn : Q.n = retP E fn r) (hQx : ∀ id σ, ¬ Q.x id σ) (h : VC E mu c Q (entry avs fn.ntmps)) : Pure E.P f avs r := by
  refine ⟨hcan, fun O w vs hr hO => (callsIn_wide (n := 0)).1 (callsIn_of_wp_marks hf hb True.intro ?_)⟩
  let g : Gh := { B0 := fun b => b < w.heap.size, O0 := O, inv := fun O' w' => Pr (fun b => b < w.heap.size) O w O' w' ∧ Tr O w O' w', stab := fun O1 w1 O2 w2 h1 h2 h3 => ⟨h1.1.trans h3, h1.2.trans h2⟩, mark := True, p := 0, βp := fun _ => none, Op := O, wp := w, hp := fun _ _ => rfl }
  have hcn : Cn g (fun _ => none) O (entry avs fn.ntmps) { tmps := vs ++ Array.replicate (fn.ntmps - vs.size) undef, defers := [] } w :=
    entry_cf (g := g) ⟨hr.1, fun i a ha => let ⟨u, h1, h2⟩ := hr.2 i a ha; ⟨u, h1, .pl _ _ h2⟩⟩ ⟨fun k c h => by simp [emp] at h, fun k k' b st st' h => absurd rfl h, hO, fun b hb => ⟨hb, hO b hb⟩, fun _ _ => rfl, fun _ _ => rfl⟩ ⟨Pr.refl _ _ _, Tr.refl _ _⟩ (fun b hb => hb) (Nat.le_refl _) (fun k q h => by cases h) (Tr.refl _ _)
  have fin : ∀ (σ : St) (β : Bt) (O' : Nat → Prop) (a : Act) (w' : World), retP E fn r σ → Cn g β O' σ a w' →
      LeavesInM Fence.wide 0 E.P fn a.tmps (fun e w' => ∃ u, e = .returned u ∧ Gr w w' ∧ Rp O w' r u) a.defers .returning w' := by
    intro σ β O' a w' ⟨σ', he, hres⟩ hc
    obtain ⟨β', O'', hc'⟩ := he.2 g β O' a w' hc
    obtain ⟨w2, hs, hc2, hlv⟩ := shut (E := E) hc'
    obtain ⟨r', v, ⟨h1, h2, h3⟩, h4, h5⟩ := results_run hE hc2 (K := fun x => x.plain = true ∧ Sb x r ∧ r.plain = true) hres
    refine hlv fn _ ⟨v, h4, v, rfl, hs.gr (w0 := w) (fun b hb => hb) ?_, ?_⟩
    · exact ⟨hc'.inv.1.os, hc'.inv.1.tape, hc'.inv.1.output, hc'.inv.2.size, fun k hk => hc'.inv.1.block k hk⟩
    · have hp := (h2 _ _ _ _ h5).plain h3
      exact hp.mono ⟨Nat.le_refl _, fun b _ ho => ⟨rfl, fun hO' => ho (hc'.hc.base b hO').1⟩, fun b arr e fz hb => ⟨arr, fz, hb, rfl⟩⟩
  have hw := h (fun y hy => by rw [hYn] at hy; cases hy) g _ O _ w ⟨fun y hy => (by rw [hYn] at hy; cases hy), fun _ _ => True.intro⟩ hcn
  rw [hro] at hw
  refine wpIn_mono hw fun e a w' hq => ?_
  cases e with
  | normal =>
    obtain ⟨g', β, O', σ, hl, _, h1, h2⟩ := hq
    have := hl hYn; subst this
    exact fin σ β O' a w' (hQn ▸ h1) h2
  | ret =>
    obtain ⟨g', β, O', σ, hl, _, h1, h2⟩ := hq
    have := hl hYn; subst this
    exact fin σ β O' a w' (hQr ▸ h1) h2
  | exit id =>
    obtain ⟨g', β, O', σ, hl, _, h1, h2⟩ := hq
    exact (hQx _ _ h1).elim
  | _ => exact hq.elim

/-- The post of a function's walk. -/
def fnPost (E : Ev) (fn : Func) (r : AV) : Post := { n := retP E fn r, x := fun _ _ => False, r := retP E fn r }

theorem pure_intro {E : Ev} (hE : EvOk E) (mu : List Nat) {f : FuncId} {fn : Func} {c : Code} {avs : List AV} {r : AV} (hf : E.P.funcs[f]? = some fn) (hb : fn.body = some c) (hcan : Callable E.P f)
    (h : VC E mu c (fnPost E fn r) (entry avs fn.ntmps)) (hro : E.ro = none := by rfl) (hYn : E.Y = none := by rfl) : Pure E.P f avs r := pure_of_vc hE hro hYn hf hb hcan rfl rfl (fun _ _ h => h) h

/-- **A call that is walked into**: the body, over the caller's rows. -/
def inP (E : Ev) (fn : Func) (K : AV → Hp → Nat → Prop) (σ : St) : Prop := ∃ σ', Ent σ σ' ∧ resL E.T σ'.hp σ'.fr fn.results.toList fun as => K (resA as) σ'.hp σ'.nx

theorem call_in {E : Ev} (hE : EvOk E) (mu : List Nat) {f : FuncId} {fn : Func} {c : Code} {H : Hp} {nx : Nat} {avs : List AV} {K : AV → Hp → Nat → Prop} (hf : E.P.funcs[f]? = some fn) (hb : fn.body = some c) (hcan : Callable E.P f)
    (h : VC E mu c ⟨inP E fn K, fun _ _ => False, inP E fn K⟩ { fr := entryFr 0 avs, hp := H, nx := nx, n := (fn.ntmps, nx, 0) }) (hro : E.ro = none := by rfl) (hYn : E.Y = none := by rfl) : CallM E.P f H nx avs K := by
  refine ⟨hcan, fun g β O w vs hc h0 hr => (callsIn_wide (n := 0)).1 (callsIn_of_wp_marks hf hb True.intro ?_)⟩
  let B : Nat → Prop := fun b => g.B0 b ∨ (b < w.heap.size ∧ ¬ ∃ arr e fz, w.heap[b]? = some (Obj.cells arr e fz))
  let g' : Gh := { B0 := B, O0 := g.O0, inv := fun O' w' => Pr B O w O' w' ∧ Tr O w O' w', stab := fun O1 w1 O2 w2 h1 h2 h3 => ⟨h1.1.trans h3, h1.2.trans h2⟩, mark := True, p := nx, βp := β, Op := O, wp := w, hp := hc.fresh }
  have hBk : Bk B w := fun b hb => hb.elim (h0 b) (fun h => h.1)
  have hcn : Cn g' β O { fr := entryFr 0 avs, hp := H, nx := nx, n := (fn.ntmps, nx, 0) } { tmps := vs ++ Array.replicate (fn.ntmps - vs.size) undef, defers := [] } w := by
    refine entry_cf (g := g') hr ⟨fun k c hk => ?_, hc.inj, hc.own, fun b hb => ⟨(hc.base b hb).1, .inl (hc.base b hb).2⟩, hc.free, hc.fresh⟩ ⟨Pr.refl _ _ _, Tr.refl _ _⟩ hBk (Nat.le_refl _) (fun k q h => h) (Tr.refl _ _)
    rcases hc.row k c hk with h1 | ⟨b, st, h1, h2, h3, arr, e, h4, h5⟩
    · exact .inl h1
    · exact .inr ⟨b, st, h1, h2, fun hb => hb.elim h3 (fun h => h.2 ⟨arr, e, _, h4⟩), arr, e, h4, h5⟩
  have fin : ∀ (σ : St) (β' : Bt) (O' : Nat → Prop) (a : Act) (w' : World), inP E fn K σ → Cn g' β' O' σ a w' →
      LeavesInM Fence.wide 0 E.P fn a.tmps (fun e w' => ∃ u r H' nx' β' O', e = .returned u ∧ K r H' nx' ∧ HC g.B0 g.O0 β' O' H' nx' w' ∧ Pr g.B0 O w O' w' ∧ R β' O' w' r u ∧ Tr O w O' w' ∧ (∀ k p, β k = some p → β' k = some p)) a.defers .returning w' := by
    intro σ β' O' a w' ⟨σ', he, hres⟩ hc'
    obtain ⟨β', O', hc'⟩ := he.2 g' _ _ a w' hc'
    obtain ⟨w2, hs, hc2, hlv⟩ := shut (E := E) hc'
    obtain ⟨r, v, h1, h4, h5⟩ := results_run hE hc2 (K := fun x => K x σ'.hp σ'.nx) hres
    have hD : w2.heap.size = w'.heap.size ∧ w2.os = w'.os ∧ w2.tape = w'.tape ∧ w2.output = w'.output ∧ (∀ b, b < w.heap.size → w2.heap[b]? = w'.heap[b]?) ∧
        (∀ (b : Nat) (arr : Array Value) (e : TypeId) (fz : Nat × Nat), w'.heap[b]? = some (Obj.cells arr e fz) → w2.heap[b]? = some (Obj.cells arr e fz)) := by
      have hcell0 : ∀ (b : Nat) (arr : Array Value) (e : TypeId) (fz : Nat × Nat), w.heap[b]? = some (Obj.cells arr e fz) → ∃ arr' fz', w'.heap[b]? = some (Obj.cells arr' e fz') := fun b arr e fz h => let ⟨arr', fz', p, _⟩ := hc'.tr.row b arr e fz h; ⟨arr', fz', p⟩
      clear h4 h5 hlv hc2
      induction hs with
      | refl => exact ⟨rfl, rfl, rfl, rfl, fun _ _ => rfl, fun _ _ _ _ h => h⟩
      | step w1 D _ _ h2 h3 ih =>
        obtain ⟨i1, i2, i3, i4, i5, i6⟩ := ih
        refine ⟨by simpa using i1, i2, i3, i4, fun b hb => (World.putObj_heap_other (fun e => ?_)).trans (i5 b hb), fun b arr e fz hb => by rw [World.putObj_heap_other (fun e => by subst e; rw [i6 _ _ _ _ hb] at h3; cases h3)]; exact i6 _ _ _ _ hb⟩
        subst e
        have : ∃ arr e fz, w.heap[b]? = some (Obj.cells arr e fz) := Classical.byContradiction fun hn => h2 (.inr ⟨hb, hn⟩)
        obtain ⟨arr, e, fz, hcell⟩ := this
        obtain ⟨arr', fz', hcell'⟩ := hcell0 b arr e fz hcell
        rw [i6 _ _ _ _ hcell'] at h3
        cases h3
    obtain ⟨d1, d2, d3, d4, d5, d6⟩ := hD
    have ht : Tr O w O' w2 := ⟨by rw [d1]; exact hc'.tr.size, fun b hb ho => let ⟨p, q⟩ := hc'.tr.keep b hb ho; ⟨(d5 b hb).trans p, q⟩, fun b arr e fz hb => let ⟨arr', fz', p, q⟩ := hc'.tr.row b arr e fz hb; ⟨arr', fz', d6 _ _ _ _ p, q⟩⟩
    refine hlv fn _ ⟨v, h4, v, r, σ'.hp, σ'.nx, β', O', rfl, h1, ⟨fun k c hk => ?_, hc2.hc.inj, hc2.hc.own, fun b hb => ⟨(hc2.hc.base b hb).1, (hc.base b hb).2⟩, hc2.hc.free, hc2.hc.fresh⟩, ?_, h5, ht, hc'.prot⟩
    · rcases hc2.hc.row k c hk with h1 | ⟨b, st, h1, h2, h3, h4⟩
      · exact .inl h1
      · exact .inr ⟨b, st, h1, h2, fun hb => h3 (.inl hb), h4⟩
    · have hp := hc'.inv.1
      exact ⟨d2.trans hp.os, d3.trans hp.tape, d4.trans hp.output, fun b hb => (d5 b (h0 b hb)).trans (hp.block b (.inl hb)), fun b hb => hp.own b (.inl hb), fun h b hb => by rw [d1]; exact hp.bk h b hb⟩
  have hw := h (fun y hy => by rw [hYn] at hy; cases hy) g' _ O _ w ⟨fun y hy => (by rw [hYn] at hy; cases hy), fun _ _ => True.intro⟩ hcn
  rw [hro] at hw
  refine wpIn_mono hw fun e a w' hq => ?_
  cases e with
  | normal =>
    obtain ⟨g'', β, O', σ, hl, _, h1, h2⟩ := hq
    have := hl hYn; subst this
    exact fin σ β O' a w' h1 h2
  | ret =>
    obtain ⟨g'', β, O', σ, hl, _, h1, h2⟩ := hq
    have := hl hYn; subst this
    exact fin σ β O' a w' h1 h2
  | exit id =>
    obtain ⟨g'', β, O', σ, hl, _, h1, h2⟩ := hq
    exact h1.elim
  | _ => exact hq.elim

end Go.Ab

/- Parts of the proof, put together by a program. -/
import Derived.ChangeSlices
import Derived.WideShapes
import Derived.Carry
import Derived.ProofKit
import Derived.Test.YtpdecefdhkhlnaaGreatDoorQac
set_option linter.unusedSimpArgs false
set_option linter.unusedVariables false
set_option linter.unusedSectionVars false
namespace Go.Ab
variable [Dr]
open Go.RowKit
def Sb (a b : AV) : Prop := ∀ (β : Bt) (O : Nat → Prop) (w : World) (u : Value), R β O w a u → R β O w b u
theorem Sb.refl (a : AV) : Sb a a := fun _ _ _ _ h => h
theorem Sb.of_eq {a b : AV} (h : a = b) : Sb a b := h ▸ Sb.refl a
theorem Sb.any (a : AV) : Sb a .any := fun _ _ _ _ _ => .any _
theorem Sb.nil (sz : Nat) : Sb (.v (.slice none 0 0)) (.sl sz 0 []) := fun _ _ _ _ h => by rw [h.v_inv]; exact .pl _ _ (.nil sz)
theorem Sb.ag {cs ds : List AV} (hl : ds.length = cs.length) (h : ∀ (i : Nat) (c d : AV), cs[i]? = some c → ds[i]? = some d → Sb c d) : Sb (.ag cs) (.ag ds) := fun β O w u hr => by
  obtain ⟨us, rfl, hs, hu⟩ := hr.ag_inv
  refine R.mk_ag (by rw [hs, hl]) fun i d hd => ?_
  have hi : i < cs.length := by rw [← hl]; exact (List.getElem?_eq_some_iff.1 hd).1
  obtain ⟨x, h1, h2⟩ := hu i cs[i] (List.getElem?_eq_getElem hi)
  exact ⟨x, h1, h i _ d (List.getElem?_eq_getElem hi) hd _ _ _ _ h2⟩
theorem Sb.tu {cs ds : List AV} (hl : ds.length = cs.length) (h : ∀ (i : Nat) (c d : AV), cs[i]? = some c → ds[i]? = some d → Sb c d) : Sb (.tu cs) (.tu ds) := fun β O w u hr => by
  obtain ⟨us, rfl, hs, hu⟩ := hr.tu_inv
  refine R.mk_tu (by rw [hs, hl]) fun i d hd => ?_
  have hi : i < cs.length := by rw [← hl]; exact (List.getElem?_eq_some_iff.1 hd).1
  obtain ⟨x, h1, h2⟩ := hu i cs[i] (List.getElem?_eq_getElem hi)
  exact ⟨x, h1, h i _ d (List.getElem?_eq_getElem hi) hd _ _ _ _ h2⟩
def SbL : List AV → List AV → Prop
  | [], [] => True
  | a :: l, b :: m => Sb a b ∧ SbL l m
  | _, _ => False
theorem SbL.get : ∀ {as bs : List AV}, SbL as bs → bs.length = as.length ∧ ∀ (i : Nat) (c d : AV), as[i]? = some c → bs[i]? = some d → Sb c d
  | [], [], _ => ⟨rfl, fun i c d h => by simp at h⟩
  | a :: l, b :: m, ⟨h1, h2⟩ => by
    obtain ⟨e, h3⟩ := SbL.get h2
    refine ⟨by simp [e], fun i c d hc hd => ?_⟩
    cases i with
    | zero => simp at hc hd; subst hc hd; exact h1
    | succ i => exact h3 i c d (by simpa using hc) (by simpa using hd)
  | [], _ :: _, h => h.elim
  | _ :: _, [], h => h.elim
theorem SbL.refl : ∀ l : List AV, SbL l l
  | [] => trivial
  | a :: l => ⟨Sb.refl a, SbL.refl l⟩
theorem Sb.tuL {cs ds : List AV} (h : SbL cs ds) : Sb (.tu cs) (.tu ds) := Sb.tu h.get.1 h.get.2
theorem Sb.agL {cs ds : List AV} (h : SbL cs ds) : Sb (.ag cs) (.ag ds) := Sb.ag h.get.1 h.get.2
section
variable {σ σ' σ'' : St}
theorem Ent.refl (σ : St) : Ent σ σ := ⟨rfl, fun g β O a w hc => ⟨β, O, hc⟩⟩
theorem Ent.trans (h : Ent σ σ') (k : Ent σ' σ'') : Ent σ σ'' := ⟨k.1.trans h.1, fun g β O a w hc =>
  let ⟨β', O', h1⟩ := h.2 g β O a w hc
  k.2 g β' O' a w h1⟩
def AV.fz (k : Nat) (c : List AV) : AV → AV
  | .ls j off sz n => bif k == j then (if off + n * sz ≤ c.length then .sl sz n ((c.drop off).take (n * sz)) else .ls j off sz n) else .ls j off sz n
  | .lp j off => bif k == j then .pt c off else .lp j off
  | .ag cs => .ag (cs.map fun
    | .ls j off sz n => bif k == j then (if off + n * sz ≤ c.length then .sl sz n ((c.drop off).take (n * sz)) else .ls j off sz n) else .ls j off sz n
    | .lp j off => bif k == j then .pt c off else .lp j off
    | a => a)
  | a => a
def fzF (k : Nat) (c : List AV) : List (Nat × AV) → List (Nat × AV)
  | [] => []
  | p :: l => (p.1, p.2.fz k c) :: fzF k c l
theorem lk_fzF (k : Nat) (c : List AV) : ∀ (l : List (Nat × AV)) (t : Nat), lk (fzF k c l) t = (lk l t).map (AV.fz k c)
  | [], t => rfl
  | p :: l, t => by
    simp only [fzF, lk]
    cases h : (p.1 == t)
    · simp [lk_fzF k c l t]
    · simp
theorem ent_freeze (k : Nat) {c : List AV} (hk : σ.hp k = some c) (hp : plainL c = true) : Ent σ { σ with fr := fzF k c σ.fr, hp := hset σ.hp k none } := by
  refine ⟨rfl, ?_⟩
  intro g β O a w hc
  let O' : Nat → Prop := fun b => O b ∧ ∀ st, β k ≠ some (some (b, st))
  have hOO : ∀ b, O' b → O b := fun b h => h.1
  have ht : Tr O w O' w := ⟨Nat.le_refl _, fun b hb ho => ⟨rfl, fun h => ho h.1⟩, fun b arr e fz hb => ⟨arr, fz, hb, rfl⟩⟩
  have one : ∀ (x : AV) (u : Value), R β O w x u → ∀ y, (y = (match x with
    | .ls j off sz n => bif k == j then (if off + n * sz ≤ c.length then AV.sl sz n ((c.drop off).take (n * sz)) else .ls j off sz n) else .ls j off sz n
    | .lp j off => bif k == j then .pt c off else .lp j off
    | a => a)) → R β O' w y u := by
    intro x u hx y hy
    have keep : R β O' w x u := hx.mono ht (fun _ _ h => h)
    have cellsOk : ∀ b st, β k = some (some (b, st)) → ¬ O' b ∧ b < w.heap.size ∧ ∀ (j : Nat) (y : AV), c[j]? = some y → ∃ v : Value, w.cell? ⟨b, st + j, none⟩ = some v ∧ Rp O' w y v := by
      intro b st hb
      refine ⟨fun h => h.2 st hb, ?_⟩
      rcases hc.hc.row k c hk with ⟨h1, _⟩ | ⟨b', st', h1, _, _, hrow⟩
      · rw [hb] at h1; cases h1
      · rw [hb] at h1; cases h1
        refine ⟨hrow.lt, fun j y hj => ?_⟩
        obtain ⟨v, p, q⟩ := hrow.cell hj
        exact ⟨v, p, (q.plain (plainL_get hp hj)).mono ht⟩
    subst hy
    split
    · rename_i j off sz n
      by_cases e : k = j
      · subst e
        simp only [BEq.rfl, cond_true]
        split
        · rename_i hle
          rcases hx.ls_inv with ⟨h1, rfl, ad, rfl, had⟩ | ⟨b, st, cap, h1, hn, rfl, _⟩
          · simp only [Nat.zero_mul, List.take_zero]
            exact .pl _ _ (.nla sz ad)
          · obtain ⟨h2, h3, h4⟩ := cellsOk b st h1
            refine .pl _ _ (Rp.mk_sl h2 h3 hn (by simp; omega) fun i y hi => ?_)
            rw [List.getElem?_take] at hi
            split at hi
            · rw [List.getElem?_drop] at hi
              rw [Nat.add_assoc]
              exact h4 _ _ hi
            · cases hi
        · exact keep
      · rw [show (k == j) = false by simpa using e, cond_false]; exact keep
    · rename_i j off
      by_cases e : k = j
      · subst e
        simp only [BEq.rfl, cond_true]
        obtain ⟨b, st, h1, rfl⟩ := hx.lp_inv
        obtain ⟨h2, h3, h4⟩ := cellsOk b st h1
        exact .pl _ _ (Rp.mk_pt h2 h3 h4)
      · rw [show (k == j) = false by simpa using e, cond_false]; exact keep
    · exact keep
  have fzR : ∀ (x : AV) (u : Value), R β O w x u → R β O' w (x.fz k c) u := by
    intro x u hx
    cases x with
    | ag cs =>
      obtain ⟨us, rfl, hs, hu⟩ := hx.ag_inv
      simp only [AV.fz]
      refine R.mk_ag (by simp [hs]) fun i y hy => ?_
      rw [List.getElem?_map] at hy
      cases hq : cs[i]? with
      | none => simp [hq] at hy
      | some z =>
        rw [hq, Option.map_some, Option.some.injEq] at hy
        obtain ⟨v, p, q⟩ := hu i z hq
        exact ⟨v, p, one z v q y hy.symm⟩
    | ls j off sz n => exact one _ u hx _ rfl
    | lp j off => exact one _ u hx _ rfl
    | _ => exact hx.mono ht (fun _ _ h => h)
  have hd := hc_drop hc.hc k
  have hrk : ∀ b st, β k = some (some (b, st)) → ¬ g.B0 b := fun b st hst => by
    rcases hc.hc.row k c hk with ⟨h1, _⟩ | ⟨b', st', h1, _, h3, _⟩
    · rw [hst] at h1; cases h1
    · rw [hst] at h1; cases h1; exact h3
  have hpr : Pr g.B0 O w O' w := ⟨rfl, rfl, rfl, .of (Nat.le_refl _), fun _ _ => rfl, fun b hb ho => ⟨ho, fun st hst => hrk b st hst hb⟩, fun h => h.tr ht (fun b hb => h.1 b hb.1)⟩
  refine ⟨β, O', ⟨hc.defers.tr ht, fun t av hav => ?_, hc.sz, ⟨fun j c' hj => ?_, hd.inj, hc.hc.own.tr ht (fun b hb => hc.hc.own.1 b hb.1), fun b hb => ⟨⟨(hc.hc.base b hb).1, fun st hst => hrk b st hst (hc.hc.base b hb).2⟩, (hc.hc.base b hb).2⟩, hd.free, hd.fresh⟩, g.stab _ _ _ _ hc.inv ht hpr, hc.b0, hc.pp, hc.prot, hc.tr.trans ht⟩⟩
  · change lk (fzF k c σ.fr) t = some av at hav
    rw [lk_fzF] at hav
    cases hq : lk σ.fr t with
    | none => simp [hq] at hav
    | some x =>
      rw [hq, Option.map_some, Option.some.injEq] at hav
      obtain ⟨u, p, q⟩ := hc.fr t x hq
      exact ⟨u, p, hav ▸ fzR x u q⟩
  · rcases hd.row j c' hj with h1 | ⟨b, st, h1, h2, h3, h4⟩
    · exact .inl h1
    · refine .inr ⟨b, st, h1, ⟨h2, fun st' hst => ?_⟩, h3, h4.mono ht (fun _ _ h => h) rfl⟩
      have hjk : σ.hp j ≠ none ∧ k ≠ j := by
        simp only [hset] at hj
        by_cases e : k = j
        · subst e; simp at hj
        · rw [show (k == j) = false by simpa using e, cond_false] at hj
          exact ⟨by rw [hj]; simp, e⟩
      exact hjk.2 (hc.hc.inj k j b st' st (by rw [hk]; simp) hjk.1 hst h1)
end
end Go.Ab
set_option linter.unusedSimpArgs false
set_option linter.unusedVariables false
namespace Go.Ab
variable [Dr]
open Go.RowKit
structure Pure (P : Program) (f : FuncId) (avs : List AV) (r : AV) : Prop where
  can : Callable P f
  run : ∀ (O : Nat → Prop) (w : World) (vs : Array Value), Rps O w avs vs → Ok O w → Calls P f vs w (fun e w' => ∃ u, e = .returned u ∧ Gr w w' ∧ Rp O w' r u)
theorem rps_of {β : Bt} {O : Nat → Prop} {w : World} {avs avs' : List AV} {vs : Array Value} (h : Rs β O w avs vs) (hs : SbL avs avs') (hp : plainL avs' = true) : Rps O w avs' vs := by
  obtain ⟨hl, hg⟩ := hs.get
  refine ⟨by rw [h.1, hl], fun i a ha => ?_⟩
  have hi : i < avs.length := by rw [← hl]; exact (List.getElem?_eq_some_iff.1 ha).1
  obtain ⟨u, h1, h2⟩ := h.2 i avs[i] (List.getElem?_eq_getElem hi)
  exact ⟨u, h1, (hg i _ a (List.getElem?_eq_getElem hi) ha _ _ _ _ h2).plain (plainL_get hp ha)⟩
theorem call_pure {P : Program} {f : FuncId} {H : Hp} {nx : Nat} {avs avs' : List AV} {r : AV} {K : AV → Prop} (h : Pure P f avs' r) (hs : SbL avs avs') (hp : plainL avs' = true) (hK : K r) : callS P f H nx avs K := by
  refine ⟨r, ⟨h.can, fun B0 O0 β O w vs hc hB hr => ?_⟩, hK⟩
  refine (h.run O w vs (rps_of hr hs hp) hc.own).mono fun e w' ⟨u, h1, h2, h3⟩ => ⟨u, h1, h2, .pl _ _ h3⟩
theorem call_pure' {P : Program} {f : FuncId} {H : Hp} {nx : Nat} {avs : List AV} {r : AV} {K : AV → Prop} (h : Pure P f avs r) (hp : plainL avs = true) (hK : K r) : callS P f H nx avs K := call_pure h (SbL.refl _) hp hK
def resL (T : Tab) (H : Hp) (fr : List (Nat × AV)) : List ResultVar → (List AV → Prop) → Prop
  | [], K => K []
  | r :: l, K => match r with
    | .tmp t => match lk fr t with
      | some a => resL T H fr l fun as => K (a :: as)
      | none => False
    | .cell t ty => match lk fr t with
      | some a => loadA T H ty a fun v => resL T H fr l fun as => K (v :: as)
      | none => False
def resA (as : List AV) : AV :=
  match as with
  | [a] => a
  | as => .tu as
theorem loadA_res {T : Tab} {H : Hp} {t : TypeId} {x : AV} {K : AV → Prop} (h : loadA T H t x K) : ∃ r, K r ∧ loadA T H t x (fun a => a = r) := by
  unfold loadA at *
  split at h
  · split at h
    · exact cellsK_res h
    · split at h
      · exact cellsK_res h
      · exact h.elim
    · exact h.elim
  · exact h.elim
theorem load_run {E : Ev} (hE : EvOk E) {B0 : Nat → Prop} {O0 : Nat → Prop} {β : Bt} {O : Nat → Prop} {H : Hp} {nx : Nat} {w : World} (hh : HC B0 O0 β O H nx w) {t : TypeId} {x : AV} {v : Value} (hx : R β O w x v) {r : AV} (h : loadA E.T H t x (fun a => a = r)) :
    ∃ ad, v = .pointer (some ad) ∧ ∃ u, (loadVar t ad).run E.P w = .ok u w ∧ R β O w r u := by
  unfold loadA at h
  split at h
  · rename_i ti ht
    split at h
    · rename_i cs i
      obtain ⟨b, off, _, _, rfl, hcell⟩ := hx.pt_inv
      obtain ⟨_, rfl, u, h1, h2⟩ := load_cells hE ht (β := β) (O := O) (w := w) (b := b) (off := off) (fun j c hc => let ⟨y, a, p⟩ := hcell j c hc; ⟨y, a, .pl _ _ p⟩) h
      exact ⟨_, rfl, u, by simpa [Instr.loadAt, Instr.sureAddr] using h1, h2⟩
    · rename_i k off
      split at h
      · rename_i c hk
        obtain ⟨b, st, hb, rfl⟩ := hx.lp_inv
        rcases hh.row k c hk with ⟨hn, _⟩ | ⟨b', st', hb', _, _, hrow⟩
        · rw [hb] at hn; cases hn
        · rw [hb] at hb'; cases hb'
          obtain ⟨_, rfl, u, h1, h2⟩ := load_cells hE ht (β := β) (O := O) (w := w) (b := b) (off := st) (fun j c hc => hrow.cell hc) h
          exact ⟨_, rfl, u, by simpa [Instr.loadAt, Instr.sureAddr] using h1, h2⟩
      · exact h.elim
    · exact h.elim
  · exact h.elim
theorem resL_run {E : Ev} (hE : EvOk E) {g : Gh} {β : Bt} {O : Nat → Prop} {σ : St} {a : Act} {w : World} (hc : Cn g β O σ a w) : ∀ (l : List ResultVar) (K : List AV → Prop), resL E.T σ.hp σ.fr l K →
    ∃ as vs, K as ∧ (l.mapM (fun | .tmp t => pure (a.tmps.getD t undef) | .cell ad t => do loadVar t (← asAddr (a.tmps.getD ad undef)) : ResultVar → Sem Value) : Sem (List Value)).run E.P w = .ok vs w ∧ Rs β O w as vs.toArray
  | [], K, h => ⟨[], [], h, rfl, ⟨rfl, fun i a h => by simp at h⟩⟩
  | r :: l, K, h => by
    have get : ∀ t av, lk σ.fr t = some av → R β O w av (a.tmps.getD t undef) := by
      intro t av ht
      obtain ⟨u, h1, h2⟩ := hc.fr t av ht
      rw [Array.getD_eq_getD_getElem?, h1]
      exact h2
    have cons : ∀ (av : AV) (v : Value) (as : List AV) (vs : List Value), R β O w av v → Rs β O w as vs.toArray → Rs β O w (av :: as) (v :: vs).toArray := by
      intro av v as vs h1 h2
      refine ⟨by have := h2.1; simp at this ⊢; exact this, fun i b hb => ?_⟩
      cases i with
      | zero => simp at hb; subst hb; exact ⟨v, rfl, h1⟩
      | succ i => simpa using h2.2 i b (by simpa using hb)
    unfold resL at h
    split at h
    · rename_i t
      split at h
      · rename_i av hav
        obtain ⟨as, vs, h1, h2, h3⟩ := resL_run hE hc l _ h
        refine ⟨av :: as, a.tmps.getD t undef :: vs, h1, ?_, cons _ _ _ _ (get _ _ hav) h3⟩
        rw [List.mapM_cons, Sem.run_bind]
        simp only [Sem.run_pure, Result.andThen_ok, Sem.run_bind, h2]
      · exact h.elim
    · rename_i t ty
      split at h
      · rename_i av hav
        obtain ⟨r, h, hl⟩ := loadA_res h
        obtain ⟨as, vs, h1, h2, h3⟩ := resL_run hE hc l _ h
        obtain ⟨ad, hv, u, g1, g2⟩ := load_run hE hc.hc (get _ _ hav) hl
        refine ⟨r :: as, u :: vs, h1, ?_, cons _ _ _ _ g2 h3⟩
        rw [List.mapM_cons, Sem.run_bind]
        have hasA : (asAddr (a.tmps.getD t undef)).run E.P w = .ok ad w := by rw [hv]; rfl
        simp only [Sem.run_pure, Result.andThen_ok, Sem.run_bind, hasA, g1, h2]
      · exact h.elim
theorem results_run {E : Ev} (hE : EvOk E) {g : Gh} {β : Bt} {O : Nat → Prop} {σ : St} {a : Act} {w : World} (hc : Cn g β O σ a w) {fn : Func} {K : AV → Prop} (h : resL E.T σ.hp σ.fr fn.results.toList fun as => K (resA as)) :
    ∃ r v, K r ∧ (results fn a.tmps).run E.P w = .ok v w ∧ R β O w r v := by
  obtain ⟨as, vs, h1, h2, h3⟩ := resL_run hE hc _ _ h
  have hrun : (results fn a.tmps).run E.P w = .ok (if h : vs.toArray.size = 1 then vs.toArray[0] else .tuple vs.toArray) w := by
    unfold results
    rw [Sem.run_bind, Array.mapM_eq_mapM_toList, Sem.run_map]
    erw [h2]
    rfl
  have hl : vs.length = as.length := by simpa using h3.1
  by_cases h0 : ∃ x, as = [x]
  · obtain ⟨x, rfl⟩ := h0
    obtain ⟨v, rfl⟩ := List.length_eq_one_iff.1 (by simpa using hl)
    refine ⟨x, v, h1, by rw [hrun]; simp, ?_⟩
    obtain ⟨u, p, q⟩ := h3.2 0 x rfl
    simp at p
    exact p ▸ q
  · have e : resA as = .tu as := by
      cases as with
      | nil => rfl
      | cons x l =>
        cases l with
        | nil => exact absurd ⟨x, rfl⟩ h0
        | cons y l => rfl
    have hne : ¬ vs.toArray.size = 1 := by
      intro h'
      have : as.length = 1 := by rw [← hl]; simpa using h'
      exact h0 (by obtain ⟨x, hx⟩ := List.length_eq_one_iff.1 this; exact ⟨x, hx⟩)
    refine ⟨_, .tuple vs.toArray, h1, by rw [hrun, dif_neg hne], ?_⟩
    rw [e]
    exact R.mk_tu h3.1 h3.2
def entryFr : Nat → List AV → List (Nat × AV)
  | _, [] => []
  | k, a :: l => (k, a) :: entryFr (k + 1) l
theorem lk_entry : ∀ (l : List AV) (k t : Nat) (av : AV), lk (entryFr k l) t = some av → k ≤ t ∧ l[t - k]? = some av
  | [], k, t, av, h => by simp [entryFr, lk] at h
  | a :: l, k, t, av, h => by
    simp only [entryFr, lk] at h
    by_cases e : k = t
    · subst e
      simp only [BEq.rfl, cond_true, Option.some.injEq] at h
      subst h
      exact ⟨Nat.le_refl _, by simp⟩
    · rw [show (k == t) = false by simpa using e, cond_false] at h
      obtain ⟨h1, h2⟩ := lk_entry l (k + 1) t av h
      refine ⟨by omega, ?_⟩
      obtain ⟨d, rfl⟩ : ∃ d, t = k + 1 + d := ⟨t - (k + 1), by omega⟩
      rw [show k + 1 + d - k = d + 1 by omega]
      rw [show k + 1 + d - (k + 1) = d by omega] at h2
      simpa using h2
def emp : Hp := fun _ => none
def entry (avs : List AV) (n : Nat) : St := { fr := entryFr 0 avs, hp := emp, nx := 0, n := (n, 0, 0) }
def retP (E : Ev) (fn : Func) (r : AV) (σ : St) : Prop := ∃ σ', Ent σ σ' ∧ resL E.T σ'.hp σ'.fr fn.results.toList fun as => (resA as).plain = true ∧ Sb (resA as) r ∧ r.plain = true
theorem entry_cf {g : Gh} {β : Bt} {O : Nat → Prop} {H : Hp} {nx p : Nat} {w : World} {avs : List AV} {vs : Array Value} {m : Nat} (hr : Rs β O w avs vs) (hc : HC g.B0 g.O0 β O H nx w) (hb : g.inv O w) (h0 : Bk g.B0 w) (hp : g.p ≤ p)
    (hpr : ∀ k q, g.βp k = some q → β k = some q) (ht : Tr g.Op g.wp O w) : Cn g β O { fr := entryFr 0 avs, hp := H, nx := nx, n := (m, p, 0) } { tmps := vs ++ Array.replicate (m - vs.size) undef, defers := [] } w := by
  refine ⟨DefOk.nil _ _ _ _, fun t av h => ?_, by simp; omega, hc, hb, h0, hp, hpr, ht⟩
  obtain ⟨_, h2⟩ := lk_entry _ _ _ _ h
  obtain ⟨u, h3, h4⟩ := hr.2 _ _ h2
  have hlt : t < vs.size := (Array.getElem?_eq_some_iff.1 h3).1
  exact ⟨u, by rw [Array.getElem?_append_left (by simpa using hlt)]; exact h3, h4⟩
theorem cell_dead {w : World} {D : Nat} {x : Option (List Deferred)} (hD : w.heap[D]? = some (.deferred x)) (o : Obj) {b i : Nat} {v : Value} (h : w.cell? ⟨b, i, none⟩ = some v) : (w.putObj D o).cell? ⟨b, i, none⟩ = some v := by
  have hne : b ≠ D := by
    intro e; subst e
    simp [World.cell?, hD] at h
  rw [World.cell?_of_block (w := w) (a := ⟨b, i, none⟩) (World.putObj_heap_other hne)]
  exact h
theorem Rp.dead {O : Nat → Prop} {w : World} {D : Nat} {x : Option (List Deferred)} (hD : w.heap[D]? = some (.deferred x)) (o : Obj) {a : AV} {u : Value} (h : Rp O w a u) : Rp O (w.putObj D o) a u := by
  induction h with
  | v x => exact .v x
  | nla sz a => exact .nla sz a
  | sl sz n cs b off cap f hO hb hn hl hc hr ih => exact .sl sz n cs b off cap f hO (by simpa using hb) hn hl (fun i c h => cell_dead hD o (hc i c h)) ih
  | pt cs i b off f hO hb hc hr ih => exact .pt cs i b off f hO (by simpa using hb) (fun i c h => cell_dead hD o (hc i c h)) ih
  | ag cs us f hs hu hr ih => exact .ag cs us f hs hu ih
  | tu cs us f hs hu hr ih => exact .tu cs us f hs hu ih
  | fn fn cs ds us vs f g hs ht hu hr hv hq ih1 ih2 => exact .fn fn cs ds us vs f g hs ht hu ih1 hv ih2
  | ic t x u h ih => exact .ic t x u ih
theorem R.dead {β : Bt} {O : Nat → Prop} {w : World} {D : Nat} {x : Option (List Deferred)} (hD : w.heap[D]? = some (.deferred x)) (o : Obj) {a : AV} {u : Value} (h : R β O w a u) : R β O (w.putObj D o) a u := by
  induction h with
  | pl a u h => exact .pl a u (h.dead hD o)
  | any u => exact .any u
  | ag cs us f hs hu hr ih => exact .ag cs us f hs hu ih
  | tu cs us f hs hu hr ih => exact .tu cs us f hs hu ih
  | fn fn cs ds us vs f g hs ht hu hr hv hq ih1 ih2 => exact .fn fn cs ds us vs f g hs ht hu ih1 hv ih2
  | ic t x u h ih => exact .ic t x u ih
  | lp k off b st hk => exact .lp k off b st hk
  | lsn k off sz a hk ha => exact .lsn k off sz a hk trivial
  | ls k off sz n b st cap hk hn' hsz =>
    obtain ⟨arr, e, fz, h1, h2⟩ := hsz
    exact .ls k off sz n b st cap hk hn' ⟨arr, e, fz, by rw [World.putObj_heap_other (fun e => by subst e; rw [hD] at h1; cases h1)]; exact h1, h2⟩
  | qt cs i b off f hO hb hc hr ih => exact .qt cs i b off f hO (by simpa using hb) (fun i c h => cell_dead hD o (hc i c h)) ih
theorem HC.dead {B0 O0 : Nat → Prop} {β : Bt} {O : Nat → Prop} {H : Hp} {nx : Nat} {w : World} {D : Nat} {x : Option (List Deferred)} (hD : w.heap[D]? = some (.deferred x)) (o : Obj) (h : HC B0 O0 β O H nx w) : HC B0 O0 β O H nx (w.putObj D o) := by
  refine ⟨fun k c hk => ?_, h.inj, ⟨fun b hb => by simpa using h.own.1 b hb, Dr.dead o hD h.own.2⟩, h.base, h.free, h.fresh⟩
  rcases h.row k c hk with h1 | ⟨b, st, h1, h2, h3, arr, e, h4, h5, h6⟩
  · exact .inl h1
  · exact .inr ⟨b, st, h1, h2, h3, arr, e, by rw [World.putObj_heap_other (fun e => by subst e; rw [hD] at h4; cases h4)]; exact h4, h5, fun j y hj => let ⟨u, p, q⟩ := h6 j y hj; ⟨u, p, q.dead hD o⟩⟩
inductive ShutW (B O : Nat → Prop) (w : World) : World → Prop where
  | refl : ShutW B O w w
  | step (w1 : World) (D : Nat) (h : ShutW B O w w1) (hO : ¬ O D) (hB : ¬ B D) (hD : w1.heap[D]? = some (.deferred (some []))) : ShutW B O w (w1.putObj D (.deferred none))
def Gh.none (B0 O0 O : Nat → Prop) (w : World) : Gh := { B0, O0, inv := fun _ _ => True, mark := True, stab := fun _ _ _ _ _ _ _ => True.intro, p := 0, βp := fun _ => .none, Op := O, wp := w, hp := fun _ _ => rfl }
theorem shut_list {E : Ev} {B0 O0 : Nat → Prop} {β : Bt} {O : Nat → Prop} {σ : St} {tmps : Array Value} {w0 : World} : ∀ (Ds : List Nat) (w : World), ShutW B0 O w0 w → Ds.Nodup → (∀ D ∈ Ds, ¬ O D ∧ ¬ B0 D ∧ w.heap[D]? = some (.deferred (some []))) →
    (∀ t av, lk σ.fr t = some av → ∃ u, tmps[t]? = some u ∧ R β O w av u) → σ.n.1 ≤ tmps.size → HC B0 O0 β O σ.hp σ.nx w → Bk B0 w → ∃ w2, ShutW B0 O w0 w2 ∧ Cn (Gh.none B0 O0 O w2) β O σ { tmps := tmps, defers := [] } w2 ∧
    (∀ (fn : Func) (R : Ending → World → Prop), LeavesIn Fence.wide 0 E.P fn tmps R [] .returning w2 → LeavesInM Fence.wide 0 E.P fn tmps R (Ds.map mark1) .returning w)
  | [], w, hs, _, _, hfr, hsz, hh, hb => ⟨w, hs, ⟨DefOk.nil _ _ _ _, hfr, hsz, hh, True.intro, hb, Nat.zero_le _, fun k q hq => (by cases hq), Tr.refl _ _⟩, fun fn R hl => hl⟩
  | D :: Ds, w, hs, hn, hD, hfr, hsz, hh, hb => by
    obtain ⟨h2, h3, h4⟩ := hD D (by simp)
    have hn' := List.nodup_cons.1 hn
    obtain ⟨w2, g1, g2, g3⟩ := shut_list (E := E) (B0 := B0) (O0 := O0) (β := β) (O := O) (σ := σ) (tmps := tmps) (w0 := w0) Ds (w.putObj D (.deferred none)) (.step w D hs h2 h3 h4) hn'.2
      (fun D' hD' => let ⟨p, q, r⟩ := hD D' (by simp [hD']); ⟨p, q, by rw [World.putObj_heap_other (fun e => hn'.1 (by subst e; exact hD'))]; exact r⟩)
      (fun t av ht => let ⟨u, p, q⟩ := hfr t av ht; ⟨u, p, q.dead h4 _⟩) hsz (hh.dead h4 _) (fun b h => by simpa using hb b h)
    exact ⟨w2, g1, g2, fun fn R hl => ⟨by simp, .inl ⟨D, _, rfl, run_takeDeferred h4, g3 fn R hl⟩⟩⟩
theorem shut {E : Ev} {g : Gh} {β : Bt} {O : Nat → Prop} {σ : St} {a : Act} {w : World} (hc : Cn g β O σ a w) : ∃ w2, ShutW g.B0 O w w2 ∧ Cn (Gh.none g.B0 g.O0 O w2) β O σ { a with defers := [] } w2 ∧
    (∀ (fn : Func) (R : Ending → World → Prop), LeavesIn Fence.wide 0 E.P fn a.tmps R [] .returning w2 → LeavesInM Fence.wide 0 E.P fn a.tmps R a.defers .returning w) := by
  obtain ⟨Ds, h1, h2, h3⟩ := hc.defers.ds
  rw [h1]
  exact shut_list Ds w .refl h2 h3 hc.fr hc.sz hc.hc hc.b0
theorem ShutW.gr {B O : Nat → Prop} {w0 w w2 : World} (h : ShutW B O w w2) (hb : ∀ b, b < w0.heap.size → B b) (hg : Gr w0 w) : Gr w0 w2 := by
  induction h with
  | refl => exact hg
  | step w1 D _ _ h2 _ ih => exact ⟨ih.os, ih.tape, ih.output, ih.drawn, by simpa using ih.size, fun k hk => (World.putObj_heap_other (fun e => h2 (by subst e; exact hb _ hk))).trans (ih.block k hk)⟩
theorem pure_of_vc {E : Ev} (hE : EvOk E) (hro : E.ro = none) (hYn : E.Y = none) {mu : List Nat} {f : FuncId} {fn : Func} {c : Code} {avs : List AV} {r : AV} {Q : Post} (hf : E.P.funcs[f]? = some fn) (hb : fn.body = some c) (hcan : Callable E.P f)
    (hQr : Q.r = retP E fn r) (hQn : Q.n = retP E fn r) (hQx : ∀ id σ, ¬ Q.x id σ) (h : VC E mu c Q (entry avs fn.ntmps)) : Pure E.P f avs r := by
  refine ⟨hcan, fun O w vs hr hO => (callsIn_wide (n := 0)).1 (callsIn_of_wp_marks hf hb True.intro ?_)⟩
  let g : Gh := { B0 := fun b => b < w.heap.size, O0 := O, inv := fun O' w' => Pr (fun b => b < w.heap.size) O w O' w' ∧ Tr O w O' w', stab := fun O1 w1 O2 w2 h1 h2 h3 => ⟨h1.1.trans h3, h1.2.trans h2⟩, mark := True, p := 0, βp := fun _ => none, Op := O, wp := w, hp := fun _ _ => rfl }
  have hcn : Cn g (fun _ => none) O (entry avs fn.ntmps) { tmps := vs ++ Array.replicate (fn.ntmps - vs.size) undef, defers := [] } w :=
    entry_cf (g := g) ⟨hr.1, fun i a ha => let ⟨u, h1, h2⟩ := hr.2 i a ha; ⟨u, h1, .pl _ _ h2⟩⟩ ⟨fun k c h => by simp [emp] at h, fun k k' b st st' h => absurd rfl h, hO, fun b hb => ⟨hb, hO.1 b hb⟩, fun _ _ => rfl, fun _ _ => rfl⟩ ⟨Pr.refl _ _ _, Tr.refl _ _⟩ (fun b hb => hb) (Nat.le_refl _) (fun k q h => by cases h) (Tr.refl _ _)
  have fin : ∀ (σ : St) (β : Bt) (O' : Nat → Prop) (a : Act) (w' : World), retP E fn r σ → Cn g β O' σ a w' →
      LeavesInM Fence.wide 0 E.P fn a.tmps (fun e w' => ∃ u, e = .returned u ∧ Gr w w' ∧ Rp O w' r u) a.defers .returning w' := by
    intro σ β O' a w' ⟨σ', he, hres⟩ hc
    obtain ⟨β', O'', hc'⟩ := he.2 g β O' a w' hc
    obtain ⟨w2, hs, hc2, hlv⟩ := shut (E := E) hc'
    obtain ⟨r', v, ⟨h1, h2, h3⟩, h4, h5⟩ := results_run hE hc2 (K := fun x => x.plain = true ∧ Sb x r ∧ r.plain = true) hres
    refine hlv fn _ ⟨v, h4, v, rfl, hs.gr (w0 := w) (fun b hb => hb) ?_, ?_⟩
    · exact ⟨hc'.inv.1.os, hc'.inv.1.tape, hc'.inv.1.output, hc'.inv.1.drawn, hc'.inv.2.size, fun k hk => hc'.inv.1.block k hk⟩
    · have hp := (h2 _ _ _ _ h5).plain h3
      exact hp.mono ⟨Nat.le_refl _, fun b _ ho => ⟨rfl, fun hO' => ho (hc'.hc.base b hO').1⟩, fun b arr e fz hb => ⟨arr, fz, hb, rfl⟩⟩
  have hw := h (fun y hy => by rw [hYn] at hy; cases hy) g _ O _ w ⟨fun y hy => (by rw [hYn] at hy; cases hy), fun _ _ => True.intro⟩ hcn
  rw [hro] at hw
  refine wpIn_mono hw fun e a w' hq => ?_
  cases e with
  | normal =>
    obtain ⟨g', β, O', σ, hl, _, h1, h2⟩ := hq
    have := hl hYn; subst this
    exact fin σ β O' a w' (hQn ▸ h1) h2
  | ret =>
    obtain ⟨g', β, O', σ, hl, _, h1, h2⟩ := hq
    have := hl hYn; subst this
    exact fin σ β O' a w' (hQr ▸ h1) h2
  | exit id =>
    obtain ⟨g', β, O', σ, hl, _, h1, h2⟩ := hq
    exact (hQx _ _ h1).elim
  | _ => exact hq.elim
def fnPost (E : Ev) (fn : Func) (r : AV) : Post := { n := retP E fn r, x := fun _ _ => False, r := retP E fn r }
theorem pure_intro {E : Ev} (hE : EvOk E) (mu : List Nat) {f : FuncId} {fn : Func} {c : Code} {avs : List AV} {r : AV} (hf : E.P.funcs[f]? = some fn) (hb : fn.body = some c) (hcan : Callable E.P f)
    (h : VC E mu c (fnPost E fn r) (entry avs fn.ntmps)) (hro : E.ro = none := by rfl) (hYn : E.Y = none := by rfl) : Pure E.P f avs r := pure_of_vc hE hro hYn hf hb hcan rfl rfl (fun _ _ h => h) h
def inP (E : Ev) (fn : Func) (K : AV → Hp → Nat → Prop) (σ : St) : Prop := ∃ σ', Ent σ σ' ∧ resL E.T σ'.hp σ'.fr fn.results.toList fun as => K (resA as) σ'.hp σ'.nx
theorem call_in {E : Ev} (hE : EvOk E) (mu : List Nat) {f : FuncId} {fn : Func} {c : Code} {H : Hp} {nx : Nat} {avs : List AV} {K : AV → Hp → Nat → Prop} (hf : E.P.funcs[f]? = some fn) (hb : fn.body = some c) (hcan : Callable E.P f)
    (h : VC E mu c ⟨inP E fn K, fun _ _ => False, inP E fn K⟩ { fr := entryFr 0 avs, hp := H, nx := nx, n := (fn.ntmps, nx, 0) }) (hro : E.ro = none := by rfl) (hYn : E.Y = none := by rfl) : CallM E.P f H nx avs K := by
  refine ⟨hcan, fun g β O w vs hc h0 hr => (callsIn_wide (n := 0)).1 (callsIn_of_wp_marks hf hb True.intro ?_)⟩
  let B : Nat → Prop := fun b => g.B0 b ∨ (b < w.heap.size ∧ ¬ ∃ arr e fz, w.heap[b]? = some (Obj.cells arr e fz))
  let g' : Gh := { B0 := B, O0 := g.O0, inv := fun O' w' => Pr B O w O' w' ∧ Tr O w O' w', stab := fun O1 w1 O2 w2 h1 h2 h3 => ⟨h1.1.trans h3, h1.2.trans h2⟩, mark := True, p := nx, βp := β, Op := O, wp := w, hp := hc.fresh }
  have hBk : Bk B w := fun b hb => hb.elim (h0 b) (fun h => h.1)
  have hcn : Cn g' β O { fr := entryFr 0 avs, hp := H, nx := nx, n := (fn.ntmps, nx, 0) } { tmps := vs ++ Array.replicate (fn.ntmps - vs.size) undef, defers := [] } w := by
    refine entry_cf (g := g') hr ⟨fun k c hk => ?_, hc.inj, hc.own, fun b hb => ⟨(hc.base b hb).1, .inl (hc.base b hb).2⟩, hc.free, hc.fresh⟩ ⟨Pr.refl _ _ _, Tr.refl _ _⟩ hBk (Nat.le_refl _) (fun k q h => h) (Tr.refl _ _)
    rcases hc.row k c hk with h1 | ⟨b, st, h1, h2, h3, arr, e, h4, h5⟩
    · exact .inl h1
    · exact .inr ⟨b, st, h1, h2, fun hb => hb.elim h3 (fun h => h.2 ⟨arr, e, _, h4⟩), arr, e, h4, h5⟩
  have fin : ∀ (σ : St) (β' : Bt) (O' : Nat → Prop) (a : Act) (w' : World), inP E fn K σ → Cn g' β' O' σ a w' →
      LeavesInM Fence.wide 0 E.P fn a.tmps (fun e w' => ∃ u r H' nx' β' O', e = .returned u ∧ K r H' nx' ∧ HC g.B0 g.O0 β' O' H' nx' w' ∧ Pr g.B0 O w O' w' ∧ R β' O' w' r u ∧ Tr O w O' w' ∧ (∀ k p, β k = some p → β' k = some p)) a.defers .returning w' := by
    intro σ β' O' a w' ⟨σ', he, hres⟩ hc'
    obtain ⟨β', O', hc'⟩ := he.2 g' _ _ a w' hc'
    obtain ⟨w2, hs, hc2, hlv⟩ := shut (E := E) hc'
    obtain ⟨r, v, h1, h4, h5⟩ := results_run hE hc2 (K := fun x => K x σ'.hp σ'.nx) hres
    have hD : w2.heap.size = w'.heap.size ∧ w2.os = w'.os ∧ w2.tape = w'.tape ∧ w2.output = w'.output ∧ w2.drawn = w'.drawn ∧ (∀ b, b < w.heap.size → w2.heap[b]? = w'.heap[b]?) ∧
        (∀ (b : Nat) (arr : Array Value) (e : TypeId) (fz : Nat × Nat), w'.heap[b]? = some (Obj.cells arr e fz) → w2.heap[b]? = some (Obj.cells arr e fz)) := by
      have hcell0 : ∀ (b : Nat) (arr : Array Value) (e : TypeId) (fz : Nat × Nat), w.heap[b]? = some (Obj.cells arr e fz) → ∃ arr' fz', w'.heap[b]? = some (Obj.cells arr' e fz') := fun b arr e fz h => let ⟨arr', fz', p, _⟩ := hc'.tr.row b arr e fz h; ⟨arr', fz', p⟩
      clear h4 h5 hlv hc2
      induction hs with
      | refl => exact ⟨rfl, rfl, rfl, rfl, rfl, fun _ _ => rfl, fun _ _ _ _ h => h⟩
      | step w1 D _ _ h2 h3 ih =>
        obtain ⟨i1, i2, i3, i4, i7, i5, i6⟩ := ih
        refine ⟨by simpa using i1, i2, i3, i4, i7, fun b hb => (World.putObj_heap_other (fun e => ?_)).trans (i5 b hb), fun b arr e fz hb => by rw [World.putObj_heap_other (fun e => by subst e; rw [i6 _ _ _ _ hb] at h3; cases h3)]; exact i6 _ _ _ _ hb⟩
        subst e
        have : ∃ arr e fz, w.heap[b]? = some (Obj.cells arr e fz) := Classical.byContradiction fun hn => h2 (.inr ⟨hb, hn⟩)
        obtain ⟨arr, e, fz, hcell⟩ := this
        obtain ⟨arr', fz', hcell'⟩ := hcell0 b arr e fz hcell
        rw [i6 _ _ _ _ hcell'] at h3
        cases h3
    obtain ⟨d1, d2, d3, d4, d7, d5, d6⟩ := hD
    have ht : Tr O w O' w2 := ⟨by rw [d1]; exact hc'.tr.size, fun b hb ho => let ⟨p, q⟩ := hc'.tr.keep b hb ho; ⟨(d5 b hb).trans p, q⟩, fun b arr e fz hb => let ⟨arr', fz', p, q⟩ := hc'.tr.row b arr e fz hb; ⟨arr', fz', d6 _ _ _ _ p, q⟩⟩
    refine hlv fn _ ⟨v, h4, v, r, σ'.hp, σ'.nx, β', O', rfl, h1, ⟨fun k c hk => ?_, hc2.hc.inj, hc2.hc.own, fun b hb => ⟨(hc2.hc.base b hb).1, (hc.base b hb).2⟩, hc2.hc.free, hc2.hc.fresh⟩, ?_, h5, ht, hc'.prot⟩
    · rcases hc2.hc.row k c hk with h1 | ⟨b, st, h1, h2, h3, h4⟩
      · exact .inl h1
      · exact .inr ⟨b, st, h1, h2, fun hb => h3 (.inl hb), h4⟩
    · have hp := hc'.inv.1
      exact ⟨d2.trans hp.os, d3.trans hp.tape, d4.trans hp.output, by rw [d7]; exact hp.drawn, fun b hb => (d5 b (h0 b hb)).trans (hp.block b (.inl hb)), fun b hb => hp.own b (.inl hb), fun h => h.tr ht (fun b hb => by rw [d1]; exact (hp.bk h).1 b hb)⟩
  have hw := h (fun y hy => by rw [hYn] at hy; cases hy) g' _ O _ w ⟨fun y hy => (by rw [hYn] at hy; cases hy), fun _ _ => True.intro⟩ hcn
  rw [hro] at hw
  refine wpIn_mono hw fun e a w' hq => ?_
  cases e with
  | normal =>
    obtain ⟨g'', β, O', σ, hl, _, h1, h2⟩ := hq
    have := hl hYn; subst this
    exact fin σ β O' a w' h1 h2
  | ret =>
    obtain ⟨g'', β, O', σ, hl, _, h1, h2⟩ := hq
    have := hl hYn; subst this
    exact fin σ β O' a w' h1 h2
  | exit id =>
    obtain ⟨g'', β, O', σ, hl, _, h1, h2⟩ := hq
    exact h1.elim
  | _ => exact hq.elim
end Go.Ab
set_option linter.unusedSimpArgs false
set_option linter.unusedVariables false
namespace Go.Ab
variable [Dr]
open Go.RowKit
def xB (id : Nat) (N : St → Prop) (X : Nat → St → Prop) (j : Nat) (σ : St) : Prop := bif Nat.beq j id then N σ else X j σ
section
variable {E : Ev} {mu : List Nat} {N R : St → Prop} {X : Nat → St → Prop} {σ : St}
theorem xB_eq {id : Nat} (h : N σ) : xB id N X id σ := by unfold xB; rw [show Nat.beq id id = true from by simp, cond_true]; exact h
theorem xB_ne {id j : Nat} (e : Nat.beq j id = false) (h : X j σ) : xB id N X j σ := by unfold xB; rw [e, cond_false]; exact h
theorem v_seq {x y : Code} (h : VC E mu x ⟨fun σ => VC E mu y ⟨N, X, R⟩ σ, X, R⟩ σ) : VC E mu (.seq x y) ⟨N, X, R⟩ σ := vc_seq h
theorem v_skip (h : N σ) : VC E mu .skip ⟨N, X, R⟩ σ := vc_skip h
theorem v_ret (h : R σ) : VC E mu .ret ⟨N, X, R⟩ σ := vc_ret h
theorem v_exit {id : Nat} (h : X id σ) : VC E mu (.exit id) ⟨N, X, R⟩ σ := vc_exit h
theorem v_block {id : Nat} {c : Code} (h : VC E mu c ⟨N, xB id N X, R⟩ σ) : VC E mu (.block id c) ⟨N, X, R⟩ σ := by
  refine vc_block ?_
  have : (fun j σ => if j = id then N σ else X j σ) = xB id N X := by
    funext j σ
    unfold xB
    by_cases e : j = id
    · subst e; simp
    · rw [if_neg e, show Nat.beq j id = false from (Bool.eq_false_iff.2 fun h => e (Nat.eq_of_beq_eq_true h)), cond_false]
  dsimp only
  rw [this]
  exact h
theorem v_cond {c : Operand} {x y : Code} {b : Bool} (hb : σ.ge c = .v (.bool b)) (ht : b = true → VC E mu x ⟨N, X, R⟩ σ) (hf : b = false → VC E mu y ⟨N, X, R⟩ σ) : VC E mu (.cond c x y) ⟨N, X, R⟩ σ := vc_cond hb ht hf
theorem v_region (hE : EvOk E) {id : Nat} {l : List Oper} (h : ∀ K : St → Prop, (∀ σ', N σ' → K σ') → wpA E mu l.toArray l σ K) : VC E mu (.region id l.toArray false) ⟨N, X, R⟩ σ := vc_region hE h
def headStill (mu : List Nat) : List Oper → Nat
  | [] => 0
  | o :: l => bif isMut mu o then 0 else headStill mu l + 1
theorem v_draw' (hE : EvOk E) {id : Nat} {l : List Oper} (hb : drawB false mu l (headStill mu l) = true) (h : ∀ K : St → Prop, (∀ σ', N σ' → K σ') → wpA E mu l.toArray l σ K) : VC E mu (.region id l.toArray true) ⟨N, X, R⟩ σ := vc_draw hE (fl := false) (fun h => by cases h) _ hb h
theorem v_drawF (hE : EvOk E) {id : Nat} {l : List Oper} (hro : E.ro = none) (hb : drawB true mu l (headStill mu l) = true) (h : ∀ K : St → Prop, (∀ σ', N σ' → K σ') → wpA E mu l.toArray l σ K) : VC E mu (.region id l.toArray true) ⟨N, X, R⟩ σ := vc_draw hE (fl := true) (fun _ => hro) _ hb h
theorem v_loop {c : Code} {T : Type} (S : T → St) (φ : T → Prop) (μ : T → Nat) (x0 : T) (h0 : φ x0) (he : Ent σ (S x0))
    (step : ∀ x, φ x → VC E mu c ⟨fun σ' => ∃ x', Ent σ' (S x') ∧ φ x' ∧ μ x' < μ x, X, R⟩ (S x)) : VC E mu (.loop c) ⟨N, X, R⟩ σ := vc_loop S φ μ x0 h0 he step
theorem p_intro {E : Ev} (hE : EvOk E) (mu : List Nat) {f : FuncId} {fn : Func} {c : Code} {avs : List AV} {r : AV} (hf : E.P.funcs[f]? = some fn) (hb : fn.body = some c) (hcan : Callable E.P f)
    (h : VC E mu c ⟨retP E fn r, fun _ _ => False, retP E fn r⟩ (entry avs fn.ntmps)) (hro : E.ro = none := by rfl) (hYn : E.Y = none := by rfl) : Pure E.P f avs r := pure_intro hE mu hf hb hcan h hro hYn
end
end Go.Ab
set_option linter.unusedSimpArgs false
set_option linter.unusedVariables false
namespace Go.Ab
variable [Dr]
open Go.RowKit
abbrev iv (x : Int) : AV := .v (.int .i64 x)
def ints (xs : List Int) : List AV := xs.map fun x => .v (.int .i64 x)
def gi (xs : List Int) (i : Int) : Int := xs.getD i.toNat 0
abbrev isl (xs : List Int) : AV := .sl 1 xs.length (ints xs)
def I64 (n : Int) : Prop := -9223372036854775808 ≤ n ∧ n ≤ 9223372036854775807
def I64L (xs : List Int) : Prop := ∀ x ∈ xs, I64 x
theorem I64L.gi {xs : List Int} (h : I64L xs) (i : Int) : I64 (gi xs i) := by
  unfold Ab.gi
  rw [List.getD_eq_getElem?_getD]
  cases e : xs[i.toNat]? with
  | none => exact ⟨by decide, by decide⟩
  | some x => exact h x (List.mem_of_getElem? e)
theorem ints_nil : ints [] = [] := rfl
theorem ints_cons (x : Int) (l : List Int) : ints (x :: l) = .v (.int .i64 x) :: ints l := rfl
theorem ints_length (xs : List Int) : (ints xs).length = xs.length := by simp [ints]
theorem ints_append (xs ys : List Int) : ints xs ++ ints ys = ints (xs ++ ys) := by simp [ints]
theorem ints_snoc (xs : List Int) (y : Int) : ints xs ++ [.v (.int .i64 y)] = ints (xs ++ [y]) := by simp [ints]
theorem ints_drop (xs : List Int) (n : Nat) : (ints xs).drop n = ints (xs.drop n) := by simp [ints]
theorem ints_take (xs : List Int) (n : Nat) : (ints xs).take n = ints (xs.take n) := by simp [ints]
theorem ints_plain (xs : List Int) : plainL (ints xs) = true := by
  induction xs with
  | nil => rfl
  | cons x l ih => rw [ints_cons]; unfold plainL; rw [ih]; rfl
theorem ints_one (xs : List Int) : oneL (ints xs) = true := by simp [oneL, ints, AV.one, Value.oneCell']
theorem ints_get (xs : List Int) (i : Nat) : (ints xs)[i]? = (xs[i]?).map fun x => .v (.int .i64 x) := by simp [ints]
theorem ints_at {xs : List Int} {i : Int} (h0 : 0 ≤ i) (h1 : i < xs.length) : (ints xs)[i.toNat]? = some (.v (.int .i64 (gi xs i))) := by
  rw [ints_get, List.getElem?_eq_getElem (by omega), Option.map_some]
  unfold gi
  rw [List.getD_eq_getElem?_getD, List.getElem?_eq_getElem (by omega)]
  rfl
theorem ints_splice {xs : List Int} {i : Nat} (y : Int) (h : i < xs.length) : splice (ints xs) i [.v (.int .i64 y)] = ints (xs.set i y) := by
  unfold splice
  rw [ints_take, ints_drop, List.set_eq_take_append_cons_drop, if_pos h]
  simp [ints]
theorem zrep_ints (n : Nat) : zrep [.v (.int .i64 0)] n = ints (List.replicate n 0) := by
  induction n with
  | zero => rfl
  | succ n ih => unfold zrep at *; rw [List.replicate_succ, List.flatten_cons, ih, List.replicate_succ]; rfl
theorem zrep_one (zs : List AV) : zrep zs 1 = zs := by simp [zrep]
theorem zrep_zero (zs : List AV) : zrep zs 0 = [] := rfl
theorem splice_one (a b : AV) : splice [a] 0 [b] = [b] := rfl
theorem splice_all {cs xs : List AV} (h : xs.length = cs.length) : splice cs 0 xs = xs := by
  unfold splice
  rw [List.drop_of_length_le (by omega)]
  simp
def slotsE (fr : List (Nat × AV)) : List (Nat × AV) → Prop
  | [] => True
  | p :: l => lk fr p.1 = some p.2 ∧ slotsE fr l
theorem slotsE_get {fr : List (Nat × AV)} : ∀ {l : List (Nat × AV)}, slotsE fr l → ∀ t av, lk l t = some av → lk fr t = some av
  | [], _, t, av, h => by simp [lk] at h
  | p :: l, ⟨h1, h2⟩, t, av, h => by
    obtain ⟨t', a'⟩ := p
    simp only [lk] at h
    by_cases e : t' = t
    · subst e
      simp only [BEq.rfl, cond_true, Option.some.injEq] at h
      subst h
      exact h1
    · rw [show (t' == t) = false by simpa using e, cond_false] at h
      exact slotsE_get h2 t av h
theorem ent_eq {σ σ' : St} (hs : slotsE σ.fr σ'.fr) (hn : σ'.n = σ.n) (hh : σ'.hp = σ.hp) (hx : σ'.nx = σ.nx) : Ent σ σ' := by
  refine ⟨hn, ?_⟩
  intro g β O a w hc
  refine ⟨β, O, ⟨hc.defers, fun t av ht => hc.fr t av (slotsE_get hs t av ht), hn ▸ hc.sz, by rw [hh, hx]; exact hc.hc, hc.inv, hc.b0, hn ▸ hc.pp, hc.prot, hc.tr⟩⟩
theorem ent_eq_hp {σ σ' : St} (hs : slotsE σ.fr σ'.fr) (hn : σ'.n = σ.n) (hh : ∀ k c, σ'.hp k = some c → σ.hp k = some c) (hx : σ.nx ≤ σ'.nx) (hf : ∀ k, σ'.nx ≤ k → σ'.hp k = none) : Ent σ σ' := by
  refine ⟨hn, ?_⟩
  intro g β O a w hc
  have ne : ∀ k, σ'.hp k ≠ none → σ.hp k ≠ none := fun k h => by
    cases e : σ'.hp k with
    | none => exact absurd e h
    | some c => rw [hh k c e]; simp
  exact ⟨β, O, ⟨hc.defers, fun t av ht => hc.fr t av (slotsE_get hs t av ht), hn ▸ hc.sz, ⟨fun k c hk => hc.hc.row k c (hh k c hk), fun k k' b st st' h1 h2 => hc.hc.inj k k' b st st' (ne k h1) (ne k' h2), hc.hc.own, hc.hc.base, hf, fun k hk => hc.hc.fresh k (Nat.le_trans hx hk)⟩, hc.inv, hc.b0, hn ▸ hc.pp, hc.prot, hc.tr⟩⟩
end Go.Ab
set_option linter.unusedSimpArgs false
set_option linter.unusedVariables false
namespace Go.Ab
variable [Dr]
open Go.RowKit
theorem lk_nil' (t : Nat) : lk [] t = none := rfl
theorem lk_cons' (k : Nat) (v : AV) (l : List (Nat × AV)) (t : Nat) : lk ((k, v) :: l) t = match k == t with | true => some v | false => lk l t := by
  simp only [lk]; cases k == t <;> rfl
theorem runO' (E : Ev) (mu : List Nat) (ops : Array Oper) (o : Oper) (l : List Oper) (K : St → Prop) (σ : St) :
    runO E mu ops o l K σ = match isMut mu o with | true => mop E o σ (moK E mu ops l K) | false => sop E o σ.ge σ.hp σ.nx (opK E mu ops l o.dst K σ) := by
  unfold runO; cases isMut mu o <;> rfl
theorem gdB_true' (E : Ev) (mu : List Nat) (ops : Array Oper) (o : Oper) (l : List Oper) (d : Nat) (want : Bool) (K : St → Prop) (σ : St) :
    gdB E mu ops o l d want K σ true = match want with | true => runO E mu ops o l K (σ.put (some d) (.v (.bool true))) | false => opK E mu ops l o.dst K (σ.put (some d) (.v (.bool true))) (.v undef) := by
  rw [gdB_true]; cases want <;> rfl
theorem gdB_false' (E : Ev) (mu : List Nat) (ops : Array Oper) (o : Oper) (l : List Oper) (d : Nat) (want : Bool) (K : St → Prop) (σ : St) :
    gdB E mu ops o l d want K σ false = match want with | true => opK E mu ops l o.dst K (σ.put (some d) (.v (.bool false))) (.v undef) | false => runO E mu ops o l K (σ.put (some d) (.v (.bool false))) := by
  rw [gdB_false]; cases want <;> rfl
theorem cellsK' (ti : TI) (cs : List AV) (i : Nat) (K : AV → Prop) : cellsK ti cs i K = match ti.agg with
    | true => (i + ti.size ≤ cs.length ∧ K (.ag ((cs.drop i).take ti.size)))
    | false => match cs[i]? with
      | some c => K c
      | none => False := by
  unfold cellsK; cases ti.agg <;> rfl
theorem hset' (H : Hp) (k : Nat) (c : Option (List AV)) (j : Nat) : hset H k c j = match k == j with | true => c | false => H j := by
  unfold hset; cases k == j <;> rfl
theorem r_ret {E : Ev} {fn : Func} {r : AV} {σ : St} (h : resL E.T σ.hp σ.fr fn.results.toList fun as => (resA as).plain = true ∧ Sb (resA as) r ∧ r.plain = true) : retP E fn r σ := ⟨σ, Ent.refl _, h⟩
theorem r_freeze {E : Ev} {fn : Func} {r : AV} {σ : St} (k : Nat) {c : List AV} (hk : σ.hp k = some c) (hp : plainL c = true) (h : retP E fn r { σ with fr := fzF k c σ.fr, hp := hset σ.hp k none }) : retP E fn r σ :=
  let ⟨σ', he, h'⟩ := h
  ⟨σ', (ent_freeze k hk hp).trans he, h'⟩
theorem fz_ints {k off n : Nat} {xs : List Int} (h : off + n ≤ xs.length) : AV.fz k (ints xs) (.ls k off 1 n) = .sl 1 n (ints ((xs.drop off).take n)) := by
  simp [AV.fz, ints_length, h, ints_drop, ints_take]
theorem fz_isl {k n : Nat} {xs : List Int} (h : n = xs.length) : AV.fz k (ints xs) (.ls k 0 1 n) = isl xs := by
  rw [fz_ints (by omega)]; subst h; simp
theorem fz_other (k : Nat) (c : List AV) (v : Value) : AV.fz k c (.v v) = .v v := rfl
theorem all_of {p : Int → Bool} {xs : List Int} (h : ∀ j : Nat, j < xs.length → p (gi xs j) = true) : xs.all p = true := by
  rw [List.all_eq_true]
  intro x hx
  obtain ⟨j, hj, rfl⟩ := List.getElem_of_mem hx
  have := h j hj
  simpa [gi, hj] using this
theorem all_not {p : Int → Bool} {xs : List Int} {i : Nat} (hi : i < xs.length) (h : p (gi xs i) = false) : xs.all p = false := by
  rw [Bool.eq_false_iff, ne_eq, List.all_eq_true]
  intro h'
  have := h' xs[i] (List.getElem_mem hi)
  simp [gi, hi] at h
  rw [h] at this
  cases this
theorem below_succ {P : Nat → Prop} {i : Nat} (h : ∀ j, j < i → P j) (hi : P i) : ∀ j, j < i + 1 → P j := fun j hj => by
  rcases Nat.lt_or_ge j i with h' | h'
  · exact h j h'
  · rw [show j = i by omega]; exact hi
theorem v_join {E : Ev} {mu : List Nat} {N R : St → Prop} {X : Nat → St → Prop} {σ : St} {x : Code} (S : St) (hx : VC E mu x ⟨fun σ' => Ent σ' S, X, R⟩ σ) (h : N S) : VC E mu x ⟨N, X, R⟩ σ :=
  vc_mono hx (fun σ' he => ⟨S, he, h⟩) (fun id σ' h => ⟨σ', Ent.refl _, h⟩) (fun σ' h => ⟨σ', Ent.refl _, h⟩)
theorem v_joinB {E : Ev} {mu : List Nat} {N R : St → Prop} {X : Nat → St → Prop} {σ : St} {x : Code} (d : Nat) (e : Bool) (hx : VC E mu x ⟨fun σ' => Ent σ' (σ.put (some d) (.v (.bool e))), X, R⟩ σ) (h : N (σ.put (some d) (.v (.bool e)))) : VC E mu x ⟨N, X, R⟩ σ := v_join _ hx h
end Go.Ab
set_option linter.unusedSimpArgs false
set_option linter.unusedVariables false
namespace Go.Ab
variable [Dr]
open Go.RowKit
structure IterA (P : Program) (f : FuncId) (cap : List AV) (ys : Nat → Option (List AV)) (an : Nat → Bool) (n : Nat) : Prop where
  can : Callable P f
  run : ∀ (y : Yd), YdOk P y → y.ys = ys → y.an = an → ∀ (O : Nat → Prop) (w : World) (vs : Array Value), Rps O w cap vs → Ok O w → y.I 0 (fun b => b < w.heap.size) O w →
    Calls P f (#[.func (.yield y.l) #[] #[]] ++ vs) w (fun e w' => (∃ u, e = .returned u) ∧ ∃ B' O', y.I n B' O' w')
abbrev IterC (P : Program) (f : FuncId) (cap : List AV) (ys : Nat → Option (List AV)) (n : Nat) : Prop := IterA P f cap ys (fun _ => true) n
def itP (n : Nat) (E : Ev) (fn : Func) (σ : St) : Prop := σ.n.2.2 = n ∧ resL E.T σ.hp σ.fr fn.results.toList fun _ => True
theorem rps_cons {O : Nat → Prop} {w : World} {avs : List AV} {vs : Array Value} (x : Value) (h : Rps O w avs vs) : Rps O w (.v x :: avs) (#[x] ++ vs) := by
  refine ⟨by rw [Array.size_append, h.1, List.length_cons]; exact Nat.add_comm _ _, fun i a ha => ?_⟩
  cases i with
  | zero => simp at ha; subst ha; exact ⟨x, Array.getElem?_append_left (xs := #[x]) Nat.zero_lt_one, .v x⟩
  | succ i =>
    obtain ⟨u, p, q⟩ := h.2 i a (by simpa using ha)
    exact ⟨u, by rw [Array.getElem?_append_right (by simp)]; simpa using p, q⟩
theorem iter_intro {E : Ev} (hE : EvOk E) (mu : List Nat) {f : FuncId} {fn : Func} {c : Code} {cap : List AV} {ys : Nat → Option (List AV)} {an : Nat → Bool} {n : Nat} (hf : E.P.funcs[f]? = some fn) (hb : fn.body = some c) (hcan : Callable E.P f)
    (h : ∀ y : Yd, y.ys = ys → y.an = an → VC (E.withY y) mu c ⟨itP n E fn, fun _ _ => False, itP n E fn⟩ (entry (.v (.func (.yield y.l) #[] #[]) :: cap) fn.ntmps)) (hro : E.ro = none := by rfl) : IterA E.P f cap ys an n := by
  refine ⟨hcan, fun y hy hys han O w vs hr hO hI => calls_of_wp hf hb ?_⟩
  let B : Nat → Prop := fun b => b < w.heap.size
  let g : Gh := { B0 := B, O0 := fun _ => False, inv := y.I 0 B, mark := False, stab := fun O1 w1 O2 w2 => hy.stab _ _ _ _ _ _, p := 0, βp := fun _ => none, Op := O, wp := w, hp := fun _ _ => rfl }
  have hcn : Cn g (fun _ => none) O (entry (.v (.func (.yield y.l) #[] #[]) :: cap) fn.ntmps) { tmps := (#[.func (.yield y.l) #[] #[]] ++ vs) ++ Array.replicate (fn.ntmps - (#[Value.func (.yield y.l) #[] #[]] ++ vs).size) undef, defers := [] } w := by
    have hr' := rps_cons (.func (.yield y.l) #[] #[]) hr
    exact entry_cf (g := g) ⟨hr'.1, fun i a ha => let ⟨u, h1, h2⟩ := hr'.2 i a ha; ⟨u, h1, .pl _ _ h2⟩⟩ ⟨fun k c h => by simp [emp] at h, fun k k' b st st' h => absurd rfl h, hO, fun b hb => hb.elim, fun _ _ => rfl, fun _ _ => rfl⟩ hI (fun b hb => hb) (Nat.le_refl _) (fun k q h => by cases h) (Tr.refl _ _)
  have hY : YOk (E.withY y) := fun y' hy' => by rw [withY_Y] at hy'; cases hy'; exact hy
  have hfit : Fit (E.withY y) g (entry (.v (.func (.yield y.l) #[] #[]) :: cap) fn.ntmps) := ⟨fun y' hy' => by rw [withY_Y] at hy'; cases hy'; exact ⟨rfl, id⟩, fun e => by rw [withY_Y] at e; cases e⟩
  have hw := h y hys han hY g _ O _ w hfit hcn
  have hro' : (E.withY y).ro = none := hro
  rw [hro'] at hw
  have hw' := wpIn_wide.1 hw
  have fin : ∀ (a : Act) (w' : World), NxtP (E.withY y) g (itP n E fn) a w' → a.defers = [] ∧ ∃ v, (results fn a.tmps).run E.P w' = .ok v w' ∧ ((∃ u, Ending.returned v = .returned u) ∧ ∃ B' O', y.I n B' O' w') := by
    intro a w' ⟨g', β', O', σ', _, hf', ⟨hn, hres⟩, hc⟩
    have hd : a.defers = [] := Classical.byContradiction fun hne => (hf'.1 y rfl).2 (hc.defers.may hne)
    obtain ⟨r, v, _, h4, _⟩ := results_run hE (E := E) hc (K := fun _ => True) hres
    have hi := hc.inv
    rw [(hf'.1 y rfl).1, hn] at hi
    exact ⟨hd, v, h4, ⟨_, rfl⟩, _, _, hi⟩
  refine Code.wp_mono (fun e a w' hq => ?_) hw'
  cases e with
  | normal => exact fin a w' hq
  | ret => exact fin a w' hq
  | exit id => obtain ⟨_, _, _, _, _, _, h1, _⟩ := hq; exact h1.elim
  | _ => exact hq.elim
def putL : List Nat → List AV → List (Nat × AV) → List (Nat × AV)
  | p :: ps, a :: as, fr => putL ps as ((p, a) :: fr)
  | _, _, fr => fr
theorem putL_cf {g : Gh} {β : Bt} {O : Nat → Prop} {H : Hp} {nx : Nat} {n : Nat × Nat × Nat} {w : World} : ∀ (ps : List Nat) (avs : List AV) (vs : List Value) (fr : List (Nat × AV)) (tmps : Array Value) (ds : List Deferred), Cf g β O (lk fr) H nx n { tmps := tmps, defers := ds } w →
    avs.length = ps.length → Rps O w avs vs.toArray → (∀ p ∈ ps, p < n.1) → Cf g β O (lk (putL ps avs fr)) H nx n { tmps := (ps.zip vs).foldl (fun t x => t.setIfInBounds x.1 x.2) tmps, defers := ds } w
  | [], avs, vs, fr, tmps, ds, hc, _, _, _ => by simpa [putL] using hc
  | p :: ps, avs, vs, fr, tmps, ds, hc, hl, hr, hp => by
    cases avs with
    | nil => simp at hl
    | cons a as =>
      cases vs with
      | nil => have := hr.1; simp at this
      | cons v vs =>
        have h0 : R β O w a v := by
          obtain ⟨u, p, q⟩ := hr.2 0 a rfl
          simp at p; subst p; exact .pl _ _ q
        have h1 := hc.put (d := some p) (r := a) (u := v) (hp p (by simp)) h0
        have hfr : updF (lk fr) (some p) a = lk ((p, a) :: fr) := rfl
        rw [hfr] at h1
        have h2 := putL_cf ps as vs ((p, a) :: fr) (tmps.setIfInBounds p v) ds h1 (by simpa using hl) ⟨by have := hr.1; simpa using this, fun i b hb => by
          obtain ⟨u, p, q⟩ := hr.2 (i + 1) b (by simpa using hb)
          exact ⟨u, by simpa using p, q⟩⟩ (fun q hq => hp q (by simp [hq]))
        simpa [putL] using h2
def endR (H : Hp) (nx : Nat) (σ : St) : Prop := ∃ σ', Ent σ σ' ∧ σ'.hp = H ∧ σ'.nx = nx
theorem tr_obj {O : Nat → Prop} {w : World} {l : Nat} {o : Obj} (o' : Obj) (hl : w.heap[l]? = some o) (hn : ∀ arr e fz, o ≠ Obj.cells arr e fz) (hO : O l) : Tr O w O (w.putObj l o') :=
  ⟨by simp, fun b hb ho => ⟨World.putObj_heap_other (fun e => ho (e ▸ hO)), ho⟩, fun b arr e fz hb => ⟨arr, fz, by rw [World.putObj_heap_other (fun e' => by subst e'; rw [hl] at hb; cases hb; exact hn _ _ _ rfl)]; exact hb, rfl⟩⟩
theorem hc_obj {B0 O0 : Nat → Prop} {β : Bt} {O : Nat → Prop} {H : Hp} {nx : Nat} {w : World} {l : Nat} {o : Obj} (o' : Obj) (hl : w.heap[l]? = some o) (hn : ∀ arr e fz, o ≠ Obj.cells arr e fz) (hO : O l) (h : HC B0 O0 β O H nx w) : HC B0 O0 β O H nx (w.putObj l o') := by
  have ht := tr_obj o' hl hn hO
  refine ⟨fun k c hk => ?_, h.inj, h.own.tr ht (fun b hb => by simpa using h.own.1 b hb), h.base, h.free, h.fresh⟩
  rcases h.row k c hk with h1 | ⟨b, st, h1, h2, h3, h4⟩
  · exact .inl h1
  · obtain ⟨arr, e, g1, g2, g3⟩ := h4
    have hne : b ≠ l := fun e' => by subst e'; rw [hl] at g1; cases g1; exact hn _ _ _ rfl
    exact .inr ⟨b, st, h1, h2, h3, RowAt.mono ⟨arr, e, g1, g2, g3⟩ ht (fun _ _ h => h) (World.putObj_heap_other hne)⟩
theorem v_range {E : Ev} (hE : EvOk E) {mu : List Nat} {gop : Operand} {ps : Array Nat} {assign body : Code} {σ : St} {N Z : St → Prop} {X : Nat → St → Prop} {fid : FuncId} {cap cap' : List AV} {ys : Nat → Option (List AV)} {n : Nat}
    (Hs : Nat → Hp) (ns : Nat → Nat) (hg : σ.ge gop = .fn (.func fid) [] cap) (hcs : SbL cap cap') (hcp : plainL cap' = true) (hit : IterC E.P fid cap' ys n) (h0 : σ.hp = Hs 0) (h0' : σ.nx = ns 0)
    (hys : ∀ t avs, ys t = some avs → avs.length = ps.toList.length) (hps : ∀ p ∈ ps.toList, p < σ.n.1)
    (hround : ∀ t avs l, ys t = some avs → VC (E.inR l) mu assign ⟨fun σ1 => VC (E.inR l) mu body ⟨endR (Hs (t + 1)) (ns (t + 1)), fun _ _ => False, fun _ => False⟩ σ1, fun _ _ => False, fun _ => False⟩ ⟨putL ps.toList avs σ.fr, Hs t, ns t, (σ.n.1, σ.nx, 0)⟩)
    (hN : N { σ with hp := Hs n, nx := ns n }) (hro : E.ro = none := by rfl) (hYn : E.Y = none := by rfl) : VC E mu (.rangeFunc gop ps assign body) ⟨N, X, Z⟩ σ := by
  intro hY g β O a w hf hc
  have hmark : g.mark := hf.2 hYn hro
  obtain ⟨us, vs, hgv, hus, hvs, hu, hv⟩ := (show R β O w (.fn (.func fid) [] cap) (a.eval gop) from hg ▸ hc.ge gop).fn_inv
  have hus0 : us = #[] := Array.eq_empty_of_size_eq_zero (by simpa using hus)
  subst hus0
  rw [hro]
  show (Code.rangeFunc gop ps assign body).wpIn Fence.wide 0 E.P _ a w
  refine wpIn_rangeFunc ?_
  intro fn hfn
  obtain ⟨rec, hrec⟩ : ∃ rec : LoopState → Option Code → Loop, rec = fun st pe => { state := st, pending := pe, fn, tmps := a.tmps, params := ps, assign, body, defers := w.heap.size } := ⟨_, rfl⟩
  obtain ⟨W1, hW1⟩ : ∃ W1, (w.alloc (.deferred (some []))).alloc (.loop (rec .ready none)) = W1 := ⟨_, rfl⟩
  let D := w.heap.size
  let l := w.heap.size + 1
  have hL1 : W1.heap[l]? = some (.loop (rec .ready none)) := by
    rw [← hW1]; have := World.alloc_heap_new (w.alloc (.deferred (some []))) (.loop (rec .ready none)); rwa [World.size_alloc] at this
  have hD1 : W1.heap[D]? = some (.deferred (some [])) := by
    rw [← hW1]; exact (Below.heap_alloc _ _ _ (by simp [D])).trans (World.alloc_heap_new w _)
  have hg1 : Gr w W1 := by
    rw [← hW1]; exact ((Gr.refl w).alloc _).alloc _
  have hsz1 : W1.heap.size = w.heap.size + 2 := by rw [← hW1]; simp
  let O1 : Nat → Prop := fun b => O b ∨ b = D ∨ b = l
  have ht1 : Tr O w O1 W1 := ⟨hg1.size, fun b hb ho => ⟨hg1.block b hb, fun h => h.elim ho (fun h => by simp only [D, l] at h; omega)⟩, fun b arr e fz hb => ⟨arr, fz, by rw [hg1.block b (lt_of_get hb)]; exact hb, rfl⟩⟩
  have hbk1 : Bk O1 W1 := fun b hb => by
    rw [hsz1]
    rcases hb with hb | hb | hb
    · have := hc.hc.own.1 b hb; omega
    · simp only [D] at hb; omega
    · simp only [l] at hb; omega
  have hp1 : Pr g.B0 O w O1 W1 := ⟨hg1.os, hg1.tape, hg1.output, hg1.drawn, fun b hb => hg1.block b (hc.b0 b hb), fun b _ ho => .inl ho, fun h => h.tr ht1 hbk1⟩
  let y : Yd := { l := l, ys := ys, I := fun t B O' w' => ∃ β' : Bt, HC g.B0 g.O0 β' O' (Hs t) (ns t) w' ∧ (∀ k b st, Hs t k ≠ none → β' k = some (some (b, st)) → B b) ∧ (∀ k q, β k = some q → β' k = some q) ∧ Tr O w O' w' ∧ g.inv O' w' ∧
    w'.heap[l]? = some (.loop (rec .ready none)) ∧ w'.heap[D]? = some (.deferred (some [])) ∧ O' l ∧ O' D ∧ (∀ b, b < w.heap.size + 2 → B b) }
  have rowB : ∀ {B0 O0 : Nat → Prop} {β' : Bt} {O' : Nat → Prop} {H : Hp} {nx : Nat} {w' : World}, HC B0 O0 β' O' H nx w' → ∀ k b st, H k ≠ none → β' k = some (some (b, st)) → O' b ∧ ¬ B0 b ∧ ∃ arr e, w'.heap[b]? = some (Obj.cells arr e (0, 0)) := by
    intro B0 O0 β' O' H nx w' hh k b st hk hb
    cases hq : H k with
    | none => exact absurd hq hk
    | some c =>
      rcases hh.row k c hq with ⟨h1, _⟩ | ⟨b', st', h1, h2, h3, arr, e, h4, _⟩
      · rw [hb] at h1; cases h1
      · rw [hb] at h1; cases h1; exact ⟨h2, h3, arr, e, h4⟩
  have hyok : YdOk E.P y := by
    constructor
    · intro t B O2 w2 O3 w3 ⟨β', h1, h2, h3, h4, h5, h6, h7, h8, h9, h10⟩ ht hp
      have hBsub : ∀ b, g.B0 b → B b := fun b hb => h10 b (by have := hc.b0 b hb; omega)
      have hl : B l := h10 l (by simp only [l]; omega)
      have hD : B D := h10 D (by simp only [D]; omega)
      refine ⟨β', ⟨fun k c hk => ?_, h1.inj, hp.bk h1.own, fun b hb => ⟨hp.own b (hBsub b (h1.base b hb).2) (h1.base b hb).1, (h1.base b hb).2⟩, h1.free, h1.fresh⟩, h2, h3, h4.trans ht, g.stab _ _ _ _ h5 ht (hp.mono hBsub), (hp.block l hl).trans h6, (hp.block D hD).trans h7, hp.own l hl h8, hp.own D hD h9, h10⟩
      rcases h1.row k c hk with q | ⟨b, st, q1, q2, q3, q4⟩
      · exact .inl q
      · have hb : B b := h2 k b st (by rw [hk]; simp) q1
        exact .inr ⟨b, st, q1, hp.own b hb q2, q3, q4.mono ht (fun _ _ h => h) (hp.block b hb)⟩
    · intro t avs B O2 w2 vs2 hyst hrps ⟨β', h1, h2, h3, h4, h5, h6, h7, h8, h9, h10⟩ hO2 hB2
      have hlen : vs2.size = ps.size := by rw [hrps.1, hys t avs hyst]; simp
      have hyield := run_yield (P := E.P) (args := vs2) h6 (by rw [hrec]; exact hlen)
      refine ⟨_, _, _, _, hyield, roundIn_of_wpIn hfn ?_⟩
      let X0 : Nat → Prop := fun b => ∃ k st, Hs t k ≠ none ∧ β' k = some (some (b, st))
      let gB : Nat → Prop := fun b => b < w2.heap.size ∧ ¬ X0 b
      let gO : Nat → Prop := fun b => O2 b ∧ gB b
      let gr : (Nat → Prop) → World → Gh := fun Oa wa => { B0 := gB, O0 := gO, inv := fun O' w' => Pr gB Oa wa O' w' ∧ Tr Oa wa O' w', mark := False, stab := fun O1 w1 O2 w2 h1 h2 h3 => ⟨h1.1.trans h3, h1.2.trans h2⟩, p := σ.nx, βp := β, Op := O, wp := w, hp := hc.hc.fresh }
      have hlX : gB l := ⟨lt_of_get h6, fun ⟨k, st, hk, hb⟩ => by
        obtain ⟨_, _, arr, e, hcell⟩ := rowB h1 k l st hk hb
        rw [h6] at hcell; cases hcell⟩
      have hDX : gB D := ⟨lt_of_get h7, fun ⟨k, st, hk, hb⟩ => by
        obtain ⟨_, _, arr, e, hcell⟩ := rowB h1 k D st hk hb
        rw [h7] at hcell; cases hcell⟩
      have hlD : D ≠ l := by simp only [D, l]; omega
      have hgBg : ∀ b, g.B0 b → gB b := fun b hb => ⟨by have := hc.b0 b hb; have := h4.size; omega, fun ⟨k, st, hk, hbk⟩ => (rowB h1 k b st hk hbk).2.1 hb⟩
      have hgl : ∀ b, g.B0 b → b ≠ l := fun b hb e => by have := hc.b0 b hb; simp only [l] at e; omega
      have hcf : Cf (gr O2 w2) β' O2 (lk σ.fr) (Hs t) (ns t) (σ.n.1, σ.nx, 0) { tmps := a.tmps, defers := [] } w2 := by
        refine ⟨DefOk.nil _ _ _ _, fun t av ht => let ⟨u, p, q⟩ := hc.fr t av ht; ⟨u, p, q.mono h4 h3⟩, hc.sz, ⟨fun k c hk => ?_, h1.inj, h1.own, fun b hb => hb, h1.free, h1.fresh⟩, ⟨Pr.refl _ _ _, Tr.refl _ _⟩, fun b hb => hb.1, Nat.le_refl _, h3, h4⟩
        rcases h1.row k c hk with q | ⟨b, st, q1, q2, q3, q4⟩
        · exact .inl q
        · exact .inr ⟨b, st, q1, q2, fun hb => hb.2 ⟨k, st, by rw [hk]; simp, q1⟩, q4⟩
      have hcp2 := putL_cf ps.toList avs vs2.toList σ.fr a.tmps [] hcf (hys t avs hyst) (by simpa using hrps) hps
      have htm : (rec .ready none).tmps = a.tmps := by rw [hrec]
      have hpm : (rec .ready none).params = ps := by rw [hrec]
      have ham : (rec .ready none).assign = assign := by rw [hrec]
      have hbm : (rec .ready none).body = body := by rw [hrec]
      have hfold : ((rec .ready none).params.zip vs2).foldl (fun (t : Array Value) (x : Tmp × Value) => t.setIfInBounds x.1 x.2) (rec .ready none).tmps = (ps.toList.zip vs2.toList).foldl (fun t x => t.setIfInBounds x.1 x.2) a.tmps := by
        rw [htm, hpm, ← Array.foldl_toList, Array.toList_zip]
      have hYr : YOk (E.inR l) := fun y hy => by rw [inR_Y, hYn] at hy; cases hy
      have hfit : ∀ (g' : Gh) (σ' : St), Fit (E.inR l) g' σ' := fun g' σ' => ⟨fun y hy => by (rw [inR_Y, hYn] at hy; cases hy), fun _ e => by cases e⟩
      have hwp := hround t avs l hyst hYr (gr O2 w2) β' O2 _ w2 (hfit _ _) hcp2
      rw [ham, hbm]
      have hact : ({ tmps := ((rec .ready none).params.zip vs2).foldl (fun (t : Array Value) (x : Tmp × Value) => t.setIfInBounds x.1 x.2) (rec .ready none).tmps, defers := [] } : Act) = { tmps := (ps.toList.zip vs2.toList).foldl (fun t x => t.setIfInBounds x.1 x.2) a.tmps, defers := [] } := by rw [hfold]
      refine hact ▸ wpIn_mono hwp fun e a1 w1 hq => ?_
      cases e with
      | normal =>
        obtain ⟨g1, β1, O3, σ1, hle1, _, hVC1, hc1⟩ := hq
        have := hle1 hYn; subst this
        have hl1 : w1.heap[l]? = some (.loop (rec .ready none)) := (hc1.inv.1.block l hlX).trans h6
        have hO3l : O3 l := (hc1.hc.base l ⟨h8, hlX⟩).1
        have hnc : ∀ (r : Loop) (arr : Array Value) (e : TypeId) (fz : Nat × Nat), Obj.loop r ≠ Obj.cells arr e fz := fun _ _ _ _ h => by cases h
        have hrb := run_beginRound (P := E.P) hl1 (by rw [hrec])
        have ht1' := tr_obj (Obj.loop { rec .ready none with state := .busy }) hl1 (hnc _) hO3l
        have hcn1 : Cn (gr O3 (w1.putObj l (.loop { rec .ready none with state := .busy }))) β1 O3 σ1 a1 (w1.putObj l (.loop { rec .ready none with state := .busy })) :=
          ⟨hc1.defers.tr ht1', fun t av ht => let ⟨u, p, q⟩ := hc1.fr t av ht; ⟨u, p, q.mono ht1' (fun _ _ h => h)⟩, hc1.sz, hc_obj _ hl1 (hnc _) hO3l hc1.hc, ⟨Pr.refl _ _ _, Tr.refl _ _⟩, fun b hb => by simpa using hc1.b0 b hb, hc1.pp, hc1.prot, hc1.tr.trans ht1'⟩
        refine ⟨_, hrb, wpIn_mono (hVC1 hYr (gr O3 _) β1 O3 a1 _ (hfit _ _) hcn1) fun e a3 w3 hq => ?_⟩
        cases e with
        | normal =>
          obtain ⟨g2, β2, O4, σ2, hle2, _, ⟨σ3, he, hhp, hnx⟩, hc2⟩ := hq
          have := hle2 hYn; subst this
          obtain ⟨β3, O5, hc3⟩ := he.2 _ _ _ _ _ hc2
          have hl3 : w3.heap[l]? = some (.loop { rec .ready none with state := .busy }) := (hc3.inv.1.block l hlX).trans (World.putObj_heap_same (lt_of_get hl1))
          have hre := run_endRound (P := E.P) none hl3
          have hO5l : O5 l := (hc3.hc.base l ⟨h8, hlX⟩).1
          have hrr : ({ { rec .ready none with state := .busy } with state := if (none : Option Code).isNone then .ready else .done, pending := none } : Loop) = rec .ready none := by rw [hrec]; rfl
          rw [hrr] at hre
          have ht5 := tr_obj (Obj.loop (rec .ready none)) hl3 (hnc _) hO5l
          have hT : Tr O2 w2 O5 (w3.putObj l (.loop (rec .ready none))) := hc1.inv.2.trans (ht1'.trans (hc3.inv.2.trans ht5))
          have hblock : ∀ b, gB b → b ≠ l → (w3.putObj l (.loop (rec .ready none))).heap[b]? = w2.heap[b]? := fun b hb hne =>
            (World.putObj_heap_other hne).trans ((hc3.inv.1.block b hb).trans ((World.putObj_heap_other hne).trans (hc1.inv.1.block b hb)))
          have hown : ∀ b, gB b → O2 b → O5 b := fun b hb ho => (hc3.hc.base b ⟨ho, hb⟩).1
          have hc4 := hc_obj (Obj.loop (rec .ready none)) hl3 (hnc _) hO5l hc3.hc
          rw [hhp, hnx] at hc4
          have hsz3 : (w3.putObj l (.loop (rec .ready none))).heap.size = w3.heap.size := World.putObj_size
          have hpr : Pr g.B0 O2 w2 O5 (w3.putObj l (.loop (rec .ready none))) :=
            ⟨hc3.inv.1.os.trans hc1.inv.1.os, hc3.inv.1.tape.trans hc1.inv.1.tape, hc3.inv.1.output.trans hc1.inv.1.output, hc1.inv.1.drawn.trans hc3.inv.1.drawn, fun b hb => hblock b (hgBg b hb) (hgl b hb), fun b hb ho => hown b (hgBg b hb) ho, fun _ => hc4.own⟩
          refine ⟨_, _, hre, rfl, fun b => B b ∨ (w2.heap.size ≤ b ∧ b < w3.heap.size), O5, ?_, ?_⟩
          · refine ⟨β3, ⟨fun k c hk => ?_, hc4.inj, hc4.own, fun b hb => ⟨hown b (hgBg b (h1.base b hb).2) (h1.base b hb).1, (h1.base b hb).2⟩, hc4.free, hc4.fresh⟩, fun k b st hk hb => ?_, hc3.prot, hc3.tr.trans ht5, g.stab _ _ _ _ h5 hT hpr, World.putObj_heap_same (lt_of_get hl3), (hblock D hDX hlD).trans h7, hO5l, hown D hDX h9, fun b hb => .inl (h10 b hb)⟩
            · rcases hc4.row k c hk with q | ⟨b, st, q1, q2, q3, q4⟩
              · exact .inl q
              · exact .inr ⟨b, st, q1, q2, fun hb => q3 (hgBg b hb), q4⟩
            · obtain ⟨_, q, arr, e, hcell⟩ := rowB hc4 k b st hk hb
              by_cases hlt : b < w2.heap.size
              · have hx : X0 b := Classical.byContradiction fun hn => q ⟨hlt, hn⟩
                obtain ⟨k', st', hk', hb'⟩ := hx
                exact .inl (h2 k' b st' hk' hb')
              · have := lt_of_get hcell
                exact .inr ⟨by omega, by omega⟩
          · refine ⟨hT, fun b hb ho hnb => ?_, fun b hb => .inl hb, fun b hb h => h.elim id (fun h => by omega), hc4.own.1, fun b hb => hb.elim (fun h => Nat.lt_of_lt_of_le (hB2 b h) hT.size) (fun h => by rw [hsz3]; exact h.2)⟩
            have hgb : gB b := ⟨hb, fun ⟨k, st, hk, hbk⟩ => hnb (h2 k b st hk hbk)⟩
            have hne : b ≠ l := fun e => hnb (h10 b (by simp only [l] at e; omega))
            exact ⟨hblock b hgb hne, hown b hgb ho, fun h => h.elim hnb (fun h => by omega)⟩
        | ret => obtain ⟨_, _, _, _, _, _, h, _⟩ := hq; exact h.elim
        | exit id => obtain ⟨_, _, _, _, _, _, h, _⟩ := hq; exact h.elim
        | _ => exact hq.elim
      | ret => obtain ⟨_, _, _, _, _, _, h, _⟩ := hq; exact h.elim
      | exit id => obtain ⟨_, _, _, _, _, _, h, _⟩ := hq; exact h.elim
      | _ => exact hq.elim
  have hrs : Rs β O w cap vs := ⟨hvs, hv⟩
  have hpend : (rec .ready none).pending = none := by rw [hrec]
  refine ⟨l, [mark1 D], W1, { target := .fn (.func fid) vs, args := #[.func (.yield l) #[] #[]] }, W1, fid, #[.func (.yield l) #[] #[]] ++ vs, W1, ?_, ?_, ?_, ?_, ?_, ?_⟩
  · rw [← hW1, hrec]; exact run_enterLoop_outer _ _ _ _ _
  · simp only [resolve, hgv]
    simp [go_sem]
  · intro f' _; exact True.intro
  · simp [invoke, go_sem, hit.can _ _]
  · intro h; cases h
  · refine (callsIn_wide (n := 0 - 1)).2 ((hit.run y hyok rfl rfl O1 W1 vs ?_ (hc.hc.own.tr ht1 hbk1) ?_).mono ?_)
    · have := rps_of hrs hcs hcp
      exact ⟨this.1, fun i x hx => let ⟨u, p, q⟩ := this.2 i x hx; ⟨u, p, q.mono ht1⟩⟩
    · refine ⟨β, ⟨fun k c hk => ?_, ?_, hc.hc.own.tr ht1 hbk1, fun b hb => ⟨.inl (hc.hc.base b hb).1, (hc.hc.base b hb).2⟩, ?_, ?_⟩, fun k b st hk hb => ?_, fun k q h => h, ht1, g.stab _ _ _ _ hc.inv ht1 hp1, hL1, hD1, .inr (.inr rfl), .inr (.inl rfl), fun b hb => ?_⟩
      · rw [← h0] at hk
        rcases hc.hc.row k c hk with q | ⟨b, st, q1, q2, q3, q4⟩
        · exact .inl q
        · exact .inr ⟨b, st, q1, .inl q2, q3, q4.mono ht1 (fun _ _ h => h) (hg1.block b q4.lt)⟩
      · rw [← h0]; exact hc.hc.inj
      · rw [← h0, ← h0']; exact hc.hc.free
      · rw [← h0']; exact hc.hc.fresh
      · rw [← h0] at hk
        obtain ⟨_, _, arr, e, hcell⟩ := rowB hc.hc k b st hk hb
        have := lt_of_get hcell
        show b < W1.heap.size
        omega
      · show b < W1.heap.size
        omega
    · rintro e w3 ⟨⟨u, rfl⟩, B', O3, β', h1, h2, h3, h4, h5, h6, h7, h8, h9, h10⟩
      have hend := run_endLoop (P := E.P) h6 (by rw [hrec]; simp)
      rw [hpend] at hend
      obtain ⟨o', hnc, hend⟩ : ∃ o', (∀ arr e fz, o' ≠ Obj.cells arr e fz) ∧ (Instr.endLoop l).run E.P w3 = .ok none (w3.putObj l o') := ⟨_, fun _ _ _ h => (by cases h), hend⟩
      refine ⟨none, _, hend, ?_⟩
      have hnc0 : ∀ (r : Loop) (arr : Array Value) (e : TypeId) (fz : Nat × Nat), Obj.loop r ≠ Obj.cells arr e fz := fun _ _ _ _ h => by cases h
      have hlD : D ≠ l := by simp only [D, l]; omega
      let O4 : Nat → Prop := fun b => O3 b ∧ b ≠ D
      have hto := tr_obj o' h6 (hnc0 _) h8
      have hsh : Tr O3 (w3.putObj l o') O4 (w3.putObj l o') := ⟨Nat.le_refl _, fun b _ ho => ⟨rfl, fun h => ho h.1⟩, fun b arr e fz hb => ⟨arr, fz, hb, rfl⟩⟩
      have ht := hto.trans hsh
      have hpd : Pr g.B0 O3 w3 O4 (w3.putObj l o') :=
        ⟨rfl, rfl, rfl, .of (Nat.le_refl _), fun b hb => World.putObj_heap_other (fun e => by have := hc.b0 b hb; simp only [l] at e; omega), fun b hb ho => ⟨ho, fun e => by have := hc.b0 b hb; simp only [D] at e; omega⟩, fun h => h.tr ht (fun b hb => by simpa using h.1 b hb.1)⟩
      have hhc := hc_obj o' h6 (hnc0 _) h8 h1
      have hDw : (w3.putObj l o').heap[D]? = some (.deferred (some [])) := (World.putObj_heap_other hlD).trans h7
      refine ⟨g, β', O4, { σ with hp := Hs n, nx := ns n }, Le.refl _ _, hf.n rfl, hN, ⟨?_, fun t av hta => let ⟨u, p, q⟩ := hc.fr t av hta; ⟨u, p, q.mono (h4.trans ht) h3⟩, hc.sz, ⟨fun k c hk => ?_, hhc.inj, hhc.own.tr hsh (fun b hb => hhc.own.1 b hb.1), fun b hb => ⟨⟨(hhc.base b hb).1, fun e => by have := hc.b0 b (h1.base b hb).2; simp only [D] at e; omega⟩, (hhc.base b hb).2⟩, hhc.free, hhc.fresh⟩, g.stab _ _ _ _ h5 ht hpd, fun b hb => ?_, hc.pp, fun k q hq => h3 _ _ (hc.prot k q hq), hc.tr.trans (h4.trans ht)⟩⟩
      · have hd := hc.defers.tr (h4.trans ht)
        obtain ⟨Ds, d1, d2, d3⟩ := hd.ds
        obtain ⟨Ds', d1', _, d3'⟩ := hc.defers.ds
        have hlt : ∀ D' ∈ Ds, D' < w.heap.size := by
          have : Ds = Ds' := by
            have := d1.symm.trans d1'
            exact (List.map_inj_right (fun x y h => by simpa [mark1] using h)).1 this
          subst this
          exact fun D' hD' => lt_of_get (d3' D' hD').2.2
        refine ⟨fun _ => hmark, D :: Ds, by simp [d1], List.nodup_cons.2 ⟨fun h => by have := hlt _ h; simp only [D] at this; omega, d2⟩, fun D' hD' => ?_⟩
        rcases List.mem_cons.1 hD' with e | hD'
        · subst e
          exact ⟨fun h => h.2 rfl, fun h => by have := hc.b0 _ h; simp only [D] at this; omega, hDw⟩
        · exact d3 D' hD'
      · rcases hhc.row k c hk with q | ⟨b, st, q1, q2, q3, q4⟩
        · exact .inl q
        · refine .inr ⟨b, st, q1, ⟨q2, fun e => ?_⟩, q3, q4.mono hsh (fun _ _ h => h) rfl⟩
          obtain ⟨arr, e', hcell, _⟩ := q4
          rw [e, hDw] at hcell
          cases hcell
      · have := hc.b0 b hb
        have := h4.size
        simp
        omega
end Go.Ab
set_option linter.unusedSimpArgs false
set_option linter.unusedVariables false
namespace Go.Ab
variable [Dr]
open Go.RowKit
def loopIn (F : Fence) (n : Nat) (P : Program) (c : Code) (Q : Exit → Act → World → Prop) (a : Act) (w : World) : Prop :=
  ∀ (b : Frame) (k : List Item) (cs : List Frame), b.roundOf = F.round → F.fn b.fn → F.room (cs.length + 1 + n) →
    ∃ e a' w', Q e a' w' ∧ ArrivesIn (Machine.fenced P F) P (lone (b.atR a (.code c :: .inLoop c :: k)) cs w) b k cs e a' w'
theorem loopIn_step {F : Fence} {n : Nat} {P : Program} {c : Code} {Q : Exit → Act → World → Prop} {a : Act} {w : World} (h : c.wpIn F n P (Exit.then (loopIn F n P c Q) Q) a w) : loopIn F n P c Q a w := by
  intro b k cs hro hb hr
  obtain ⟨e, a₁, w₁, hq, harr⟩ := h b (.inLoop c :: k) cs hro hb hr
  cases e with
  | normal =>
    obtain ⟨e₂, a₂, w₂, hq₂, harr₂⟩ := hq b k cs hro hb hr
    exact ⟨e₂, a₂, w₂, hq₂, .of_steps (StepsIn.trans harr (.one (fenced_calm hb hr rfl) stepR_inLoop)) harr₂⟩
  | exit id => exact ⟨_, a₁, w₁, hq, .pass (x := .inLoop c) rfl (fun _ _ => .inl (by simp)) harr⟩
  | goto l => exact ⟨_, a₁, w₁, hq, .pass (x := .inLoop c) rfl (fun _ _ => .inl (by simp)) harr⟩
  | ret => exact ⟨_, a₁, w₁, hq, .pass (x := .inLoop c) rfl (fun _ _ => .inl (by simp)) harr⟩
  | panic ch => exact ⟨_, a₁, w₁, hq, .pass (x := .inLoop c) rfl (fun _ _ => .inl (by simp)) harr⟩
  | outgrown => exact ⟨_, a₁, w₁, hq, .pass (x := .inLoop c) rfl (fun _ _ => .inl (by simp)) harr⟩
theorem loopIn_loop {F : Fence} {n : Nat} {P : Program} {c : Code} {Q : Exit → Act → World → Prop} {a : Act} {w : World} (h : loopIn F n P c Q a w) : (Code.loop c).wpIn F n P Q a w := by
  intro b k cs hro hb hr
  obtain ⟨e, a', w', hq, harr⟩ := h b k cs hro hb hr
  exact ⟨e, a', w', hq, .of_steps (.one (fenced_calm hb hr rfl) stepR_loop) harr⟩
def VL (E : Ev) (mu : List Nat) (c : Code) (Q : Post) (σ : St) : Prop := YOk E → ∀ (g : Gh) (β : Bt) (O : Nat → Prop) (a : Act) (w : World), Fit E g σ → Cn g β O σ a w → loopIn (Fn E.ro) 0 E.P c (PC E g Q) a w
section
variable {E : Ev} {mu : List Nat} {N R : St → Prop} {X : Nat → St → Prop} {σ : St} {c : Code}
theorem v_run (h : VL E mu c ⟨N, X, R⟩ σ) : VC E mu (.loop c) ⟨N, X, R⟩ σ := fun hY g β O a w hf hc => loopIn_loop (h hY g β O a w hf hc)
theorem v_round (h : VC E mu c ⟨fun σ' => VL E mu c ⟨N, X, R⟩ σ', X, R⟩ σ) : VL E mu c ⟨N, X, R⟩ σ := by
  intro hY g β O a w hf hc
  refine loopIn_step (wpIn_mono (h hY g β O a w hf hc) fun e a' w' hq => ?_)
  cases e with
  | normal =>
    obtain ⟨g', β', O', σ', hl, hf', h1, h2⟩ := hq
    intro b k cs hro hb hr
    obtain ⟨e, a'', w'', hq, harr⟩ := h1 hY g' β' O' _ _ hf' h2 b k cs hro hb hr
    exact ⟨e, a'', w'', hq.le hl, harr⟩
  | exit id => exact hq
  | ret => exact hq
  | _ => exact hq.elim
end
end Go.Ab
set_option linter.unusedSimpArgs false
set_option linter.unusedVariables false
namespace Go.Ab
variable [Dr]
open Go.RowKit
theorem ent_nil_cell {σ : St} (k j sz : Nat) {c : List AV} (hk : σ.hp k = some c) (hj : c[j]? = some (.v (.slice none 0 0))) : Ent σ { σ with hp := hset (hset σ.hp k (some (c.set j (.ls σ.nx 0 sz 0)))) σ.nx (some []), nx := σ.nx + 1 } := by
  refine ⟨rfl, fun g β O a w hc => ?_⟩
  obtain ⟨h1, h2⟩ := hc_nil hc.hc
  have hs := hc.step (Tr.refl O w) h2 h1 (Pr.refl _ _ _)
  have hkn : k ≠ σ.nx := fun e => by rw [e, hc.hc.free σ.nx (Nat.le_refl _)] at hk; cases hk
  have look : ∀ i, hset (hset σ.hp k (some (c.set j (.ls σ.nx 0 sz 0)))) σ.nx (some []) i = if i = k then some (c.set j (.ls σ.nx 0 sz 0)) else hset σ.hp σ.nx (some []) i := by
    intro i
    rw [hset', hset']
    by_cases e1 : σ.nx = i
    · subst e1
      rw [if_neg (Ne.symm hkn), hset']
      simp
    · rw [show (σ.nx == i) = false by simpa using e1]
      dsimp only
      by_cases e2 : i = k
      · subst e2; simp
      · rw [if_neg e2, show (k == i) = false by simpa using Ne.symm e2, hset', show (σ.nx == i) = false by simpa using e1]
  have dom : ∀ i, hset (hset σ.hp k (some (c.set j (.ls σ.nx 0 sz 0)))) σ.nx (some []) i ≠ none → hset σ.hp σ.nx (some []) i ≠ none := by
    intro i hi
    rw [look i] at hi
    by_cases e : i = k
    · subst e
      rw [hset', show (σ.nx == i) = false by simpa using Ne.symm hkn]
      dsimp only
      rw [hk]; simp
    · rwa [if_neg e] at hi
  refine ⟨_, O, ⟨hs.defers, hs.fr, hs.sz, ⟨fun i c' hi => ?_, fun i i' b st st' a1 a2 => hs.hc.inj i i' b st st' (dom i a1) (dom i' a2), hs.hc.own, hs.hc.base, fun i hi => ?_, hs.hc.fresh⟩, hs.inv, hs.b0, hs.pp, hs.prot, hs.tr⟩⟩
  · change hset (hset σ.hp k (some (c.set j (.ls σ.nx 0 sz 0)))) σ.nx (some []) i = some c' at hi
    rw [look i] at hi
    by_cases e : i = k
    · subst e
      rw [if_pos rfl] at hi
      cases hi
      rcases hs.hc.row i c (by rw [hset', show (σ.nx == i) = false by simpa using Ne.symm hkn]; exact hk) with ⟨q, rfl⟩ | ⟨b, st, q1, q2, q3, arr, e, q4, q5, q6⟩
      · simp at hj
      · refine .inr ⟨b, st, q1, q2, q3, arr, e, q4, by simpa using q5, fun j' x hx => ?_⟩
        rw [List.getElem?_set] at hx
        by_cases ej : j = j'
        · subst ej
          rw [if_pos rfl] at hx
          split at hx
          · cases hx
            obtain ⟨u, p, q⟩ := q6 j _ hj
            exact ⟨u, p, by rw [q.v_inv]; exact .lsn _ _ _ none (by simp) trivial⟩
          · cases hx
        · rw [if_neg ej] at hx
          exact q6 j' x hx
    · rw [if_neg e] at hi
      exact hs.hc.row i c' hi
  · show hset (hset σ.hp k (some (c.set j (.ls σ.nx 0 sz 0)))) σ.nx (some []) i = none
    have hi' : σ.nx + 1 ≤ i := hi
    have : i ≠ k := fun e => by
      subst e
      rw [hc.hc.free i (by omega)] at hk; cases hk
    rw [look i, if_neg this]
    exact hs.hc.free i hi'
end Go.Ab
set_option linter.unusedSimpArgs false
set_option linter.unusedVariables false
namespace Go.Ab
variable [Dr]
open Go.RowKit
def FRow (O : Nat → Prop) (w w' : World) (sz n : Nat) (c : List AV) (u : Value) : Option (Nat × Nat) → Prop
  | none => n = 0 ∧ c = [] ∧ ∃ a, u = .slice a 0 0 ∧ True
  | some (b, st) => w.heap.size ≤ b ∧ ∃ cap, n ≤ cap ∧ u = .slice (some ⟨b, st, none⟩) n cap ∧ ∃ (arr : Array Value) (e : TypeId), w'.heap[b]? = some (Obj.cells arr e (0, 0)) ∧ st + c.length ≤ arr.size ∧ st + cap * sz ≤ arr.size ∧
      ∀ (j : Nat) (x : AV), c[j]? = some x → ∃ v : Value, arr[st + j]? = some v ∧ Rp (fun b' => O b' ∨ b' = b) w' x v
structure Fresh (P : Program) (f : FuncId) (avs : List AV) (sz n : Nat) (c : List AV) : Prop where
  can : Callable P f
  run : ∀ (O : Nat → Prop) (w : World) (vs : Array Value), Rps O w avs vs → Ok O w → Calls P f vs w (fun e w' => ∃ u q, e = .returned u ∧ Gr w w' ∧ FRow O w w' sz n c u q)
def frP (E : Ev) (fn : Func) (sz n : Nat) (c : List AV) (σ : St) : Prop := ∃ σ', Ent σ σ' ∧ resL E.T σ'.hp σ'.fr fn.results.toList fun as => ∃ k, resA as = .ls k 0 sz n ∧ σ'.hp k = some c ∧ plainL c = true
theorem fresh_intro {E : Ev} (hE : EvOk E) (mu : List Nat) {f : FuncId} {fn : Func} {b : Code} {avs : List AV} {sz n : Nat} {c : List AV} (hf : E.P.funcs[f]? = some fn) (hb : fn.body = some b) (hcan : Callable E.P f)
    (h : VC E mu b ⟨frP E fn sz n c, fun _ _ => False, frP E fn sz n c⟩ (entry avs fn.ntmps)) (hro : E.ro = none := by rfl) (hYn : E.Y = none := by rfl) : Fresh E.P f avs sz n c := by
  refine ⟨hcan, fun O w vs hr hO => (callsIn_wide (n := 0)).1 (callsIn_of_wp_marks hf hb True.intro ?_)⟩
  let g : Gh := { B0 := fun b => b < w.heap.size, O0 := O, inv := fun O' w' => Pr (fun b => b < w.heap.size) O w O' w' ∧ Tr O w O' w', stab := fun O1 w1 O2 w2 h1 h2 h3 => ⟨h1.1.trans h3, h1.2.trans h2⟩, mark := True, p := 0, βp := fun _ => none, Op := O, wp := w, hp := fun _ _ => rfl }
  have hcn : Cn g (fun _ => none) O (entry avs fn.ntmps) { tmps := vs ++ Array.replicate (fn.ntmps - vs.size) undef, defers := [] } w :=
    entry_cf (g := g) ⟨hr.1, fun i a ha => let ⟨u, h1, h2⟩ := hr.2 i a ha; ⟨u, h1, .pl _ _ h2⟩⟩ ⟨fun k c h => by simp [emp] at h, fun k k' b st st' h => absurd rfl h, hO, fun b hb => ⟨hb, hO.1 b hb⟩, fun _ _ => rfl, fun _ _ => rfl⟩ ⟨Pr.refl _ _ _, Tr.refl _ _⟩ (fun b hb => hb) (Nat.le_refl _) (fun k q h => by cases h) (Tr.refl _ _)
  have fin : ∀ (σ : St) (β : Bt) (O' : Nat → Prop) (a : Act) (w' : World), frP E fn sz n c σ → Cn g β O' σ a w' →
      LeavesInM Fence.wide 0 E.P fn a.tmps (fun e w' => ∃ u q, e = .returned u ∧ Gr w w' ∧ FRow O w w' sz n c u q) a.defers .returning w' := by
    intro σ β O' a w' ⟨σ', he, hres⟩ hc
    obtain ⟨β', O'', hc'⟩ := he.2 g β O' a w' hc
    obtain ⟨w2, hs, hc2, hlv⟩ := shut (E := E) hc'
    obtain ⟨r', v, ⟨k, h1, h2, h3⟩, h4, h5⟩ := results_run hE hc2 (K := fun x => ∃ k, x = .ls k 0 sz n ∧ σ'.hp k = some c ∧ plainL c = true) hres
    have hgr : Gr w w2 := hs.gr (w0 := w) (fun b hb => hb) ⟨hc'.inv.1.os, hc'.inv.1.tape, hc'.inv.1.output, hc'.inv.1.drawn, hc'.inv.2.size, fun k hk => hc'.inv.1.block k hk⟩
    have hsub : ∀ b, O b → O'' b := fun b hb => (hc'.hc.base b hb).1
    subst h1
    rcases h5.ls_inv with ⟨g1, g2, ad, rfl, had⟩ | ⟨b, st, cap, g1, g2, rfl, arr0, e0, fz0, g3, g4⟩
    · have hce : c = [] := by
        rcases hc2.hc.row k c h2 with ⟨_, q⟩ | ⟨b, st, q, _⟩
        · exact q
        · rw [g1] at q; cases q
      exact hlv fn _ ⟨_, h4, _, none, rfl, hgr, g2, hce, ad, rfl, trivial⟩
    · rcases hc2.hc.row k c h2 with ⟨q, _⟩ | ⟨b', st', q, q2, q3, arr, e, q4, q5, q6⟩
      · rw [g1] at q; cases q
      · rw [g1] at q; cases q
        rw [q4] at g3
        cases g3
        refine hlv fn _ ⟨_, h4, _, some (b, st), rfl, hgr, Nat.le_of_not_lt q3, cap, g2, rfl, _, _, q4, q5, g4, fun j x hj => ?_⟩
        obtain ⟨v, p1, p2⟩ := q6 j x hj
        refine ⟨v, p1, (p2.plain (plainL_get h3 hj)).mono ⟨Nat.le_refl _, fun b' _ ho => ⟨rfl, fun hO' => ho (hO'.elim (hsub b') (fun e => e ▸ q2))⟩, fun b arr e fz hb => ⟨arr, fz, hb, rfl⟩⟩⟩
  have hw := h (fun y hy => by rw [hYn] at hy; cases hy) g _ O _ w ⟨fun y hy => (by rw [hYn] at hy; cases hy), fun _ _ => True.intro⟩ hcn
  rw [hro] at hw
  refine wpIn_mono hw fun e a w' hq => ?_
  cases e with
  | normal =>
    obtain ⟨g', β, O', σ, hl, _, h1, h2⟩ := hq
    have := hl hYn; subst this
    exact fin σ β O' a w' h1 h2
  | ret =>
    obtain ⟨g', β, O', σ, hl, _, h1, h2⟩ := hq
    have := hl hYn; subst this
    exact fin σ β O' a w' h1 h2
  | exit id =>
    obtain ⟨g', β, O', σ, hl, _, h1, h2⟩ := hq
    exact h1.elim
  | _ => exact hq.elim
theorem call_fresh {P : Program} {f : FuncId} {H : Hp} {nx : Nat} {avs avs' : List AV} {sz n : Nat} {c : List AV} {K : AV → Hp → Nat → Prop} (h : Fresh P f avs' sz n c) (hs : SbL avs avs') (hp : plainL avs' = true) (hK : K (.ls nx 0 sz n) (hset H nx (some c)) (nx + 1)) : CallM P f H nx avs K := by
  refine ⟨h.can, fun g β O w vs hc h0 hr => (h.run O w vs (rps_of hr hs hp) hc.own).mono fun e w' ⟨u, q, he, hg, hq⟩ => ?_⟩
  have hcg := hc.gr hg
  cases q with
  | none =>
    obtain ⟨rfl, rfl, a, rfl, ha⟩ := hq
    obtain ⟨h1, h2⟩ := hc_nil hcg
    exact ⟨_, _, _, _, _, O, he, hK, h1, Pr.of_gr hg h0, .lsn _ _ _ a (by simp) ha, Tr.of_gr hg, h2⟩
  | some p =>
    obtain ⟨b, st⟩ := p
    obtain ⟨hb, cap, hn, rfl, arr, e0, h1, h2, h3, h4⟩ := hq
    let O' : Nat → Prop := fun b' => O b' ∨ b' = b
    let β' : Bt := fun k => if k = nx then some (some (b, st)) else β k
    have hβ : ∀ k p, β k = some p → β' k = some p := by
      intro k p hk
      have : k ≠ nx := fun e => by rw [e, hc.fresh nx (Nat.le_refl _)] at hk; cases hk
      show (if _ = _ then _ else _) = _
      rw [if_neg this, hk]
    have ht : Tr O w O' w' := ⟨hg.size, fun b' hb' ho => ⟨hg.block b' hb', fun h => h.elim ho (fun e => by omega)⟩, fun b' arr e fz hb' => ⟨arr, fz, by rw [hg.block b' (lt_of_get hb')]; exact hb', rfl⟩⟩
    have hbk : Bk O w → Bk O' w' := fun h b' hb' => hb'.elim (fun h' => Nat.lt_of_lt_of_le (h b' h') hg.size) (fun e => by rw [e]; exact lt_of_get h1)
    have hlt : ∀ k b' st', H k ≠ none → β k = some (some (b', st')) → b' < w.heap.size := fun k b' st' hk hb' => by
      cases hq : H k with
      | none => exact absurd hq hk
      | some c' =>
        rcases hc.row k c' hq with ⟨q1, _⟩ | ⟨b'', st'', q1, _, _, q4⟩
        · rw [hb'] at q1; cases q1
        · rw [hb'] at q1; cases q1; exact q4.lt
    have old : ∀ k, k ≠ nx → hset H nx (some c) k = H k := fun k hk => by
      rw [hset', show (nx == k) = false by simpa using Ne.symm hk]
    refine ⟨_, _, _, _, β', O', he, hK, ⟨fun k c' hk => ?_, fun k k' b1 s1 s2 a1 a2 a3 a4 => ?_, hc.own.tr ht (hbk hc.own.1), fun b' hb' => ⟨.inl (hc.base b' hb').1, (hc.base b' hb').2⟩, fun k hk => ?_, fun k hk => ?_⟩, ⟨hg.os, hg.tape, hg.output, hg.drawn, fun b' hb' => hg.block b' (h0 b' hb'), fun _ _ h => .inl h, fun h => h.tr ht (hbk h.1)⟩, .ls _ _ _ _ b st cap (if_pos rfl) hn ⟨arr, e0, _, h1, h3⟩, ht, hβ⟩
    · by_cases hk' : k = nx
      · subst hk'
        rw [hset'] at hk
        simp at hk
        subst hk
        refine .inr ⟨b, st, if_pos rfl, .inr rfl, fun hB => by have := h0 b hB; omega, arr, e0, h1, h2, fun j x hj => ?_⟩
        obtain ⟨v, p1, p2⟩ := h4 j x hj
        exact ⟨v, p1, .pl _ _ p2⟩
      · rw [old k hk'] at hk
        rcases hc.row k c' hk with q | ⟨b1, s1, q1, q2, q3, q4⟩
        · exact .inl ⟨hβ _ _ q.1, q.2⟩
        · exact .inr ⟨b1, s1, hβ _ _ q1, .inl q2, q3, q4.mono ht hβ (hg.block b1 q4.lt)⟩
    · have a3' : (if k = nx then some (some (b, st)) else β k) = some (some (b1, s1)) := a3
      have a4' : (if k' = nx then some (some (b, st)) else β k') = some (some (b1, s2)) := a4
      by_cases e1 : k = nx <;> by_cases e2 : k' = nx
      · rw [e1, e2]
      · rw [if_pos e1] at a3'; rw [if_neg e2] at a4'
        rw [old k' e2] at a2
        have := hlt k' b1 s2 a2 a4'
        cases a3'
        omega
      · rw [if_neg e1] at a3'; rw [if_pos e2] at a4'
        rw [old k e1] at a1
        have := hlt k b1 s1 a1 a3'
        cases a4'
        omega
      · rw [if_neg e1] at a3'; rw [if_neg e2] at a4'
        rw [old k e1] at a1
        rw [old k' e2] at a2
        exact hc.inj k k' b1 s1 s2 a1 a2 a3' a4'
    · rw [old k (by omega)]; exact hc.free k (by omega)
    · show (if _ = _ then _ else _) = _
      rw [if_neg (by omega)]
      exact hc.fresh k (by omega)
theorem Fresh.pure {P : Program} {f : FuncId} {avs : List AV} {sz n : Nat} {c : List AV} (h : Fresh P f avs sz n c) (hl : c.length = n * sz) : Pure P f avs (.sl sz n c) := by
  refine ⟨h.can, fun O w vs hr hO => (h.run O w vs hr hO).mono fun e w' ⟨u, q, he, hg, hq⟩ => ⟨u, he, hg, ?_⟩⟩
  cases q with
  | none =>
    obtain ⟨rfl, rfl, a, rfl, ha⟩ := hq
    exact .nla sz a
  | some p =>
    obtain ⟨b, st⟩ := p
    obtain ⟨hb, cap, hn, rfl, arr, e0, h1, h2, h3, h4⟩ := hq
    have ho : ¬ O b := fun h => by have := hO.1 b h; omega
    refine Rp.mk_sl ho (lt_of_get h1) hn hl fun j x hj => ?_
    obtain ⟨v, p1, p2⟩ := h4 j x hj
    exact ⟨v, by simp [World.cell?, h1, p1], p2.mono ⟨Nat.le_refl _, fun b' _ hn => ⟨rfl, fun hO' => hn (.inl hO')⟩, fun b arr e fz hb => ⟨arr, fz, hb, rfl⟩⟩⟩
end Go.Ab
set_option linter.unusedSimpArgs false
set_option linter.unusedVariables false
namespace Go.Ab
variable [Dr]
open Go.RowKit
def hfz (k : Nat) (c : List AV) (H : Hp) : Hp := fun j => bif k == j then none else (H j).map (List.map (AV.fz k c))
theorem hfz' (k : Nat) (c : List AV) (H : Hp) (j : Nat) : hfz k c H j = match k == j with | true => none | false => (H j).map (List.map (AV.fz k c)) := by
  unfold hfz; cases k == j <;> rfl
section
variable {σ : St}
theorem ent_freezeH (k : Nat) {c : List AV} (hk : σ.hp k = some c) (hp : plainL c = true) : Ent σ { σ with fr := fzF k c σ.fr, hp := hfz k c σ.hp } := by
  refine ⟨rfl, ?_⟩
  intro g β O a w hc
  let O' : Nat → Prop := fun b => O b ∧ ∀ st, β k ≠ some (some (b, st))
  have hOO : ∀ b, O' b → O b := fun b h => h.1
  have ht : Tr O w O' w := ⟨Nat.le_refl _, fun b hb ho => ⟨rfl, fun h => ho h.1⟩, fun b arr e fz hb => ⟨arr, fz, hb, rfl⟩⟩
  have one : ∀ (x : AV) (u : Value), R β O w x u → ∀ y, (y = (match x with
    | .ls j off sz n => bif k == j then (if off + n * sz ≤ c.length then AV.sl sz n ((c.drop off).take (n * sz)) else .ls j off sz n) else .ls j off sz n
    | .lp j off => bif k == j then .pt c off else .lp j off
    | a => a)) → R β O' w y u := by
    intro x u hx y hy
    have keep : R β O' w x u := hx.mono ht (fun _ _ h => h)
    have cellsOk : ∀ b st, β k = some (some (b, st)) → ¬ O' b ∧ b < w.heap.size ∧ ∀ (j : Nat) (y : AV), c[j]? = some y → ∃ v : Value, w.cell? ⟨b, st + j, none⟩ = some v ∧ Rp O' w y v := by
      intro b st hb
      refine ⟨fun h => h.2 st hb, ?_⟩
      rcases hc.hc.row k c hk with ⟨h1, _⟩ | ⟨b', st', h1, _, _, hrow⟩
      · rw [hb] at h1; cases h1
      · rw [hb] at h1; cases h1
        refine ⟨hrow.lt, fun j y hj => ?_⟩
        obtain ⟨v, p, q⟩ := hrow.cell hj
        exact ⟨v, p, (q.plain (plainL_get hp hj)).mono ht⟩
    subst hy
    split
    · rename_i j off sz n
      by_cases e : k = j
      · subst e
        simp only [BEq.rfl, cond_true]
        split
        · rename_i hle
          rcases hx.ls_inv with ⟨h1, rfl, ad, rfl, had⟩ | ⟨b, st, cap, h1, hn, rfl, _⟩
          · simp only [Nat.zero_mul, List.take_zero]
            exact .pl _ _ (.nla sz ad)
          · obtain ⟨h2, h3, h4⟩ := cellsOk b st h1
            refine .pl _ _ (Rp.mk_sl h2 h3 hn (by simp; omega) fun i y hi => ?_)
            rw [List.getElem?_take] at hi
            split at hi
            · rw [List.getElem?_drop] at hi
              rw [Nat.add_assoc]
              exact h4 _ _ hi
            · cases hi
        · exact keep
      · rw [show (k == j) = false by simpa using e, cond_false]; exact keep
    · rename_i j off
      by_cases e : k = j
      · subst e
        simp only [BEq.rfl, cond_true]
        obtain ⟨b, st, h1, rfl⟩ := hx.lp_inv
        obtain ⟨h2, h3, h4⟩ := cellsOk b st h1
        exact .pl _ _ (Rp.mk_pt h2 h3 h4)
      · rw [show (k == j) = false by simpa using e, cond_false]; exact keep
    · exact keep
  have fzR : ∀ (x : AV) (u : Value), R β O w x u → R β O' w (x.fz k c) u := by
    intro x u hx
    cases x with
    | ag cs =>
      obtain ⟨us, rfl, hs, hu⟩ := hx.ag_inv
      simp only [AV.fz]
      refine R.mk_ag (by simp [hs]) fun i y hy => ?_
      rw [List.getElem?_map] at hy
      cases hq : cs[i]? with
      | none => simp [hq] at hy
      | some z =>
        rw [hq, Option.map_some, Option.some.injEq] at hy
        obtain ⟨v, p, q⟩ := hu i z hq
        exact ⟨v, p, one z v q y hy.symm⟩
    | ls j off sz n => exact one _ u hx _ rfl
    | lp j off => exact one _ u hx _ rfl
    | _ => exact hx.mono ht (fun _ _ h => h)
  have hd := hc_drop hc.hc k
  have hrk : ∀ b st, β k = some (some (b, st)) → ¬ g.B0 b := fun b st hst => by
    rcases hc.hc.row k c hk with ⟨h1, _⟩ | ⟨b', st', h1, _, h3, _⟩
    · rw [hst] at h1; cases h1
    · rw [hst] at h1; cases h1; exact h3
  have hpr : Pr g.B0 O w O' w := ⟨rfl, rfl, rfl, .of (Nat.le_refl _), fun _ _ => rfl, fun b hb ho => ⟨ho, fun st hst => hrk b st hst hb⟩, fun h => h.tr ht (fun b hb => h.1 b hb.1)⟩
  have hfn : ∀ j, hfz k c σ.hp j ≠ none → k ≠ j ∧ σ.hp j ≠ none := fun j h => by
    unfold hfz at h
    by_cases e : k = j
    · subst e; simp at h
    · rw [show (k == j) = false by simpa using e, cond_false] at h
      exact ⟨e, fun h' => by rw [h'] at h; exact h rfl⟩
  refine ⟨β, O', ⟨hc.defers.tr ht, fun t av hav => ?_, hc.sz, ⟨fun j c' hj => ?_, fun i j b st st' h1 h2 h3 h4 => hc.hc.inj i j b st st' (hfn i h1).2 (hfn j h2).2 h3 h4, hc.hc.own.tr ht (fun b hb => hc.hc.own.1 b hb.1), fun b hb => ⟨⟨(hc.hc.base b hb).1, fun st hst => hrk b st hst (hc.hc.base b hb).2⟩, (hc.hc.base b hb).2⟩, fun j hj => ?_, hc.hc.fresh⟩, g.stab _ _ _ _ hc.inv ht hpr, hc.b0, hc.pp, hc.prot, hc.tr.trans ht⟩⟩
  · change lk (fzF k c σ.fr) t = some av at hav
    rw [lk_fzF] at hav
    cases hq : lk σ.fr t with
    | none => simp [hq] at hav
    | some x =>
      rw [hq, Option.map_some, Option.some.injEq] at hav
      obtain ⟨u, p, q⟩ := hc.fr t x hq
      exact ⟨u, p, hav ▸ fzR x u q⟩
  · have hj' : hfz k c σ.hp j = some c' := hj
    obtain ⟨hkj, hne⟩ := hfn j (by rw [hj']; simp)
    unfold hfz at hj'
    rw [show (k == j) = false by simpa using hkj, cond_false] at hj'
    cases hq : σ.hp j with
    | none => exact absurd hq hne
    | some d =>
      rw [hq, Option.map_some, Option.some.injEq] at hj'
      subst hj'
      rcases hc.hc.row j d hq with ⟨h1, rfl⟩ | ⟨b, st, h1, h2, h3, arr, e, h4, h5, h6⟩
      · exact .inl ⟨h1, rfl⟩
      · refine .inr ⟨b, st, h1, ⟨h2, fun st' hst => hkj (hc.hc.inj k j b st' st (by rw [hk]; simp) hne hst h1)⟩, h3, arr, e, h4, by simpa using h5, fun i x hi => ?_⟩
        rw [List.getElem?_map] at hi
        cases hz : d[i]? with
        | none => simp [hz] at hi
        | some z =>
          rw [hz, Option.map_some, Option.some.injEq] at hi
          obtain ⟨u, p, q⟩ := h6 i z hz
          exact ⟨u, p, hi ▸ fzR z u q⟩
  · show hfz k c σ.hp j = none
    unfold hfz
    rw [hc.hc.free j hj]
    cases k == j <;> rfl
end
theorem r_freezeH {E : Ev} {fn : Func} {r : AV} {σ : St} (k : Nat) {c : List AV} (hk : σ.hp k = some c) (hp : plainL c = true) (h : retP E fn r { σ with fr := fzF k c σ.fr, hp := hfz k c σ.hp }) : retP E fn r σ :=
  let ⟨σ', he, h'⟩ := h
  ⟨σ', (ent_freezeH k hk hp).trans he, h'⟩
end Go.Ab
set_option linter.unusedSimpArgs false
set_option linter.unusedVariables false
namespace Go.Ab
variable [Dr]
open Go.RowKit Go.ChangeShapes Go.WideShapes
abbrev NoO : Nat → Prop := fun _ => False
section
variable {H : Type} {enc : TypeId × Value → H} {P : Program} {w : World} {base : Nat} {spare : Nat → Bool} {held : Bool}
theorem has_lt {r : Reach} {b : Nat} {a : Addr} {e : TypeId} {n : Nat} (h : w.has P r b a e n) : a.spot = none ∧ a.block < w.heap.size := by
  obtain ⟨_, h1, row, cells, h2, _⟩ := h
  refine ⟨h1, ?_⟩
  rcases Nat.lt_or_ge a.block w.heap.size with h' | h'
  · exact h'
  · unfold World.shape? at h2
    rw [Array.getElem?_eq_none h'] at h2
    cases h2
theorem open_isl {t e : TypeId} {v : Value} {d : DataW H} {ps : List MemPlace} (ht : P.underlying t = some (.slice e)) (he : P.underlying e = some (.int .i64)) (hc : P.cellsOf e = 1)
    (hv : Value.okWide P w .any base t v) (h : DataW.Trod enc P w 0 spare held t v d ps) : ∃ xs : List Int, Rp NoO w (isl xs) v ∧ xs.length ≤ maxLen ∧ I64L xs := by
  obtain ⟨a0, len, cap, rfl⟩ := okWide_slice ht hv
  obtain ⟨fuel, hf⟩ := h
  rcases open_ints ht he hc hf with ⟨hcs, _⟩ | ⟨a, len', cap', zs, hcs, _, hl, hm, hz, _, hcell, hwz⟩
  · simp [Value.cells] at hcs
    obtain ⟨rfl, rfl, rfl⟩ := hcs
    exact ⟨[], .nil 1, by simp, fun x hx => by simp at hx⟩
  · simp [Value.cells] at hcs
    obtain ⟨rfl, rfl, rfl⟩ := hcs
    have hh : w.has P .any base a e cap := by
      simp only [Value.okWide, ht, Cell.okWide, Cell.ok] at hv
      exact hv.2.2
    obtain ⟨hs, hb⟩ := has_lt hh
    obtain ⟨b, off, sp⟩ := a
    dsimp only at hs hb
    subst hs
    have hlen : len ≤ zs.length := by rw [hz]; split <;> omega
    refine ⟨zs.take len, ?_, by rw [List.length_take]; omega, fun x hx => ?_⟩
    · have hn : (zs.take len).length = len := by rw [List.length_take]; omega
      unfold isl
      rw [hn]
      refine Rp.mk_sl (fun h => h) hb hl (by rw [ints_length, hn]; omega) fun i c hi => ?_
      rw [ints_get] at hi
      cases hq : (zs.take len)[i]? with
      | none => simp [hq] at hi
      | some z =>
        rw [hq, Option.map_some, Option.some.injEq] at hi
        have hil : i < zs.length := by
          have := (List.getElem?_eq_some_iff.1 hq).1
          simp at this; omega
        have hil2 : i < len := by
          have := (List.getElem?_eq_some_iff.1 hq).1
          simp at this; omega
        have h1 := hcell i hil
        rw [List.getElem?_take_of_lt hil2] at hq
        have e1 : zs.getD i 0 = z := by rw [List.getD_eq_getElem?_getD, hq]; rfl
        rw [e1, addr_add] at h1
        exact ⟨_, h1, hi ▸ .v _⟩
    · have := hwz x (List.mem_of_mem_take hx)
      simpa [Lit.wf, IntKind.min, IntKind.max, IntKind.signed, IntKind.bits, I64] using this
theorem open_recI {t : TypeId} {fs : Array Field} {v : Value} {d : DataW H} {ps : List MemPlace} (ht : P.underlying t = some (.struct fs)) (hsz : P.cellsOf t = fs.size)
    (hfs : ∀ (i : Nat) (f : Field), fs[i]? = some f → f.offset = i ∧ P.underlying f.type = some (.int .i64) ∧ P.cellsOf f.type = 1)
    (hv : Value.okWide P w .any base t v) (h : DataW.Trod enc P w 0 spare held t v d ps) : ∃ zs : List Int, zs.length = fs.size ∧ Rp NoO w (.ag (ints zs)) v ∧ I64L zs := by
  obtain ⟨cs, rfl, hcsz⟩ := okWide_struct ht hv
  obtain ⟨fuel, hf⟩ := h
  obtain ⟨xs, n, _, _, hlen, hx, hget⟩ := DataW.trod_struct ht hf
  have hsize : cs.size = fs.size := by rw [hcsz, hsz]
  have each : ∀ i, i < fs.size → ∃ z : Int, cs[i]? = some (.int .i64 z) ∧ (Lit.int .i64 z).wf = true := by
    intro i hi
    obtain ⟨h1, h2, h3⟩ := hfs i fs[i] (Array.getElem?_eq_getElem hi)
    have hg := hget i fs[i] (Array.getElem?_eq_getElem hi)
    have hxi : i < xs.length := by rw [hx]; exact hi
    rw [List.getElem?_eq_getElem hxi, h1, h3] at hg
    obtain ⟨z, hz, _, hw⟩ := DataW.trod_int h2 hg
    refine ⟨z, ?_, hw⟩
    have : ((Value.agg cs).cells.toList.drop i).take 1 = [cs[i]'(by omega)] := by
      show (cs.toList.drop i).take 1 = _
      rw [List.drop_eq_getElem_cons (by simp; omega)]
      simp
    rw [this] at hz
    simp only [List.cons.injEq, and_true] at hz
    rw [Array.getElem?_eq_getElem (by omega), hz]
  have hch : ∃ f : Nat → Int, ∀ i, i < fs.size → cs[i]? = some (.int .i64 (f i)) ∧ (Lit.int .i64 (f i)).wf = true := by
    refine ⟨fun i => if h : i < fs.size then (each i h).choose else 0, fun i hi => ?_⟩
    simp only [dif_pos hi]
    exact (each i hi).choose_spec
  obtain ⟨f, hf⟩ := hch
  refine ⟨(List.range fs.size).map f, by simp, ?_, fun x hx => ?_⟩
  · refine .ag _ _ (fun i => .int .i64 (f i)) (by simp [ints_length, hsize]) (fun i c hi => ?_) (fun i c hi => ?_)
    · have hil : i < fs.size := by have := (List.getElem?_eq_some_iff.1 hi).1; simpa [ints_length] using this
      exact (hf i hil).1
    · have hil : i < fs.size := by have := (List.getElem?_eq_some_iff.1 hi).1; simpa [ints_length] using this
      rw [ints_get] at hi
      simp [hil] at hi
      exact hi ▸ .v _
  · simp only [List.mem_map, List.mem_range] at hx
    obtain ⟨i, hi, rfl⟩ := hx
    have := (hf i hi).2
    simpa [Lit.wf, IntKind.min, IntKind.max, IntKind.signed, IntKind.bits, I64] using this
theorem rps_nil : Rps NoO w [] #[] := ⟨rfl, fun i a h => by simp at h⟩
theorem rps_cons' {a : AV} {v : Value} {as : List AV} {vs : List Value} (h : Rp NoO w a v) (hs : Rps NoO w as vs.toArray) : Rps NoO w (a :: as) (v :: vs).toArray := by
  refine ⟨by have := hs.1; simp at this ⊢; exact this, fun i b hb => ?_⟩
  cases i with
  | zero => simp at hb; subst hb; exact ⟨v, rfl, h⟩
  | succ i => simpa using hs.2 i b (by simpa using hb)
theorem trodAll_stay (hl : laidOutB P = true) {w' : World} (hg : Gr w w') : ∀ {ts : List TypeId} {vs : List Value} {ds : List (DataW H)} {ps : List MemPlace}, (∀ t ∈ ts, P.readableRec t = true ∧ t < P.types.size) →
    DataW.TrodAll enc P w 0 (fun _ => true) true ts vs ds ps → (∀ x ∈ ps, x.block < w.heap.size) → DataW.TrodAll enc P w' 0 (fun b => decide (b < w.heap.size)) true ts vs ds ps
  | [], [], [], _, _, h, _ => h
  | t :: ts, v :: vs, d :: ds, ps, hT, ⟨p, q, h1, h2, e⟩, hlt =>
    ⟨p, q, Below.trod hl (hT t (by simp)).1 (hT t (by simp)).2 h1 hg.below (fun x hx => hlt x (by rw [e]; exact List.mem_append_left _ hx)), trodAll_stay hl hg (fun t ht => hT t (by simp [ht])) h2 (fun x hx => hlt x (by rw [e]; exact List.mem_append_right _ hx)), e⟩
theorem post_true {fn : Func} {s : ChangeSpec} {args : Array Value} {ds gs : List (DataW H)} {before : List MemPlace} {w' : World} (hl : laidOutB P = true) {tb : TypeId} (hb : P.underlying tb = some .bool) (hrt : fn.resultTypes.toList = [tb])
    (hT : ∀ t ∈ fn.params.toList, P.readableRec t = true ∧ t < P.types.size) (hvs : s.vars = []) (hgs : gs = []) (hsp : s.fn H (ds ++ gs) = { results := [.lit (.bool true)], args := ds })
    (hW : DataW.Whole enc P fn.params.toList s.vars false w args.toList ds gs before) (hg : Gr w w') : s.post enc P fn false true false false w args (.bool true) w' := by
  have hW' := hW
  obtain ⟨p, q, hA, hV, rfl, _, _⟩ := hW
  have hq : q = [] := by
    subst hgs
    rw [hvs] at hV
    exact hV
  subst hq
  have hlt : ∀ x ∈ p, x.block < w.heap.size := fun x hx => by simpa using hW'.lt x (by simp [hx])
  have hargs := trodAll_stay hl hg hT hA hlt
  have hrs : fn.resultTypes.size = 1 := by rw [← Array.length_toList, hrt]; rfl
  refine ⟨ds, gs, p ++ [], [], p, [], hW', ?_, ?_, ?_, hg.below.frame _, fun h => by cases h⟩
  · rw [hsp, hrt, hrs]
    exact trodAll_mk1 (shut_bool hb true)
  · rw [hsp]; exact hargs
  · rw [hsp, hvs]
    rfl
end
end Go.Ab
set_option linter.unusedSimpArgs false
set_option linter.unusedVariables false
namespace Go.Ab
variable [Dr]
open Go.RowKit
theorem bq_ne {a b : Nat} (h : a ≠ b) : (a == b) = false := by simpa using h
theorem Ent.of_eq {σ σ' : St} (h : σ = σ') : Ent σ σ' := h ▸ Ent.refl σ
def hls : List (Nat × List AV) → Hp
  | [] => emp
  | p :: l => hset (hls l) p.1 (some p.2)
def rowsOk (H : Hp) (nx : Nat) : List (Nat × List AV) → Prop
  | [] => True
  | p :: l => (H p.1 = some p.2 ∧ p.1 < nx) ∧ rowsOk H nx l
theorem hls_some {H : Hp} {nx : Nat} : ∀ {l : List (Nat × List AV)}, rowsOk H nx l → ∀ k c, hls l k = some c → H k = some c ∧ k < nx
  | [], _, k, c, h => by cases h
  | p :: l, ⟨h1, h2⟩, k, c, h => by
    unfold hls at h
    rw [hset'] at h
    by_cases e : p.1 = k
    · subst e
      rw [beq_self_eq_true] at h
      cases h
      exact h1
    · rw [bq_ne e] at h
      exact hls_some h2 k c h
theorem ent_rows {σ : St} {fr : List (Nat × AV)} {n : Nat × Nat × Nat} {nx : Nat} (l : List (Nat × List AV)) (hs : slotsE σ.fr fr) (hn : n = σ.n) (hh : rowsOk σ.hp nx l) (hx : σ.nx ≤ nx) : Ent σ ⟨fr, hls l, nx, n⟩ :=
  ent_eq_hp hs hn (fun k c hk => (hls_some hh k c hk).1) hx fun k hk => by
    cases e : hls l k with
    | none => exact e
    | some c => have := (hls_some hh k c e).2; have hk' : nx ≤ k := hk; omega
end Go.Ab

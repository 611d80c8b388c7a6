/- The abstract machine, part 21: functions that hand back a new row. -/
import Derived.Test.YtbobgnkohnbonaaAbNil
set_option linter.unusedSimpArgs false
set_option linter.unusedVariables false
namespace Go.Ab
open Go.RowKit

/-- A slice's value over a row that was not there before. -/
def FRow (O : Nat → Prop) (w w' : World) (sz n : Nat) (c : List AV) (u : Value) : Option (Nat × Nat) → Prop
  | none => n = 0 ∧ c = [] ∧ ∃ a, u = .slice a 0 0 ∧ ∀ ad, a = some ad → ∃ b of, ad = ⟨b, of, none⟩ ∧ ¬ O b ∧ b < w'.heap.size
  | some (b, st) => w.heap.size ≤ b ∧ ∃ cap, n ≤ cap ∧ u = .slice (some ⟨b, st, none⟩) n cap ∧ ∃ (arr : Array Value) (e : TypeId), w'.heap[b]? = some (Obj.cells arr e (0, 0)) ∧ st + c.length ≤ arr.size ∧ st + cap * sz ≤ arr.size ∧
      ∀ (j : Nat) (x : AV), c[j]? = some x → ∃ v : Value, arr[st + j]? = some v ∧ Rp (fun b' => O b' ∨ b' = b) w' x v

/-- **A function that hands back a new slice**: n elements of sz cells, c; whoever called may write it. -/
structure Fresh (P : Program) (f : FuncId) (avs : List AV) (sz n : Nat) (c : List AV) : Prop where
  can : Callable P f
  run : ∀ (O : Nat → Prop) (w : World) (vs : Array Value), Rps O w avs vs → Bk O w → Calls P f vs w (fun e w' => ∃ u q, e = .returned u ∧ Gr w w' ∧ FRow O w w' sz n c u q)

/-- What is asked at a return. -/
def frP (E : Ev) (fn : Func) (sz n : Nat) (c : List AV) (σ : St) : Prop := ∃ σ', Ent σ σ' ∧ resL E.T σ'.hp σ'.fr fn.results.toList fun as => ∃ k, resA as = .ls k 0 sz n ∧ σ'.hp k = some c ∧ plainL c = true

theorem fresh_intro {E : Ev} (hE : EvOk E) (mu : List Nat) {f : FuncId} {fn : Func} {b : Code} {avs : List AV} {sz n : Nat} {c : List AV} (hf : E.P.funcs[f]? = some fn) (hb : fn.body = some b) (hcan : Callable E.P f)
    (h : VC E mu b ⟨frP E fn sz n c, fun _ _ => False, frP E fn sz n c⟩ (entry avs fn.ntmps)) (hro : E.ro = none := by rfl) (hYn : E.Y = none := by rfl) : Fresh E.P f avs sz n c := by
  refine ⟨hcan, fun O w vs hr hO => (callsIn_wide (n := 0)).1 (callsIn_of_wp_marks hf hb True.intro ?_)⟩
  let g : Gh := { B0 := fun b => b < w.heap.size, O0 := O, inv := fun O' w' => Pr (fun b => b < w.heap.size) O w O' w' ∧ Tr O w O' w', stab := fun O1 w1 O2 w2 h1 h2 h3 => ⟨h1.1.trans h3, h1.2.trans h2⟩, mark := True, p := 0, βp := fun _ => none, Op := O, wp := w, hp := fun _ _ => rfl }
  have hcn : Cn g (fun _ => none) O (entry avs fn.ntmps) { tmps := vs ++ Array.replicate (fn.ntmps - vs.size) undef, defers := [] } w :=
    entry_cf (g := g) ⟨hr.1, fun i a ha => let ⟨u, h1, h2⟩ := hr.2 i a ha; ⟨u, h1, .pl _ _ h2⟩⟩ ⟨fun k c h => by simp [emp] at h, fun k k' b st st' h => absurd rfl h, hO, fun b hb => ⟨hb, hO b hb⟩, fun _ _ => rfl, fun _ _ => rfl⟩ ⟨Pr.refl _ _ _, Tr.refl _ _⟩ (fun b hb => hb) (Nat.le_refl _) (fun k q h => by cases h) (Tr.refl _ _)
  have fin : ∀ (σ : St) (β : Bt) (O' : Nat → Prop) (a : Act) (w' : World), frP E fn sz n c σ → Cn g β O' σ a w' →
      LeavesInM Fence.wide 0 E.P fn a.tmps (fun e w' => ∃ u q, e = .returned u ∧ Gr w w' ∧ FRow O w w' sz n c u q) a.defers .returning w' := by
    intro σ β O' a w' ⟨σ', he, hres⟩ hc
    obtain ⟨β', O'', hc'⟩ := he.2 g β O' a w' hc
    obtain ⟨w2, hs, hc2, hlv⟩ := shut (E := E) hc'
    obtain ⟨r', v, ⟨k, h1, h2, h3⟩, h4, h5⟩ := results_run hE hc2 (K := fun x => ∃ k, x = .ls k 0 sz n ∧ σ'.hp k = some c ∧ plainL c = true) hres
    have hgr : Gr w w2 := hs.gr (w0 := w) (fun b hb => hb) ⟨hc'.inv.1.os, hc'.inv.1.tape, hc'.inv.1.output, hc'.inv.2.size, fun k hk => hc'.inv.1.block k hk⟩
    have hsub : ∀ b, O b → O'' b := fun b hb => (hc'.hc.base b hb).1
    subst h1
    rcases h5.ls_inv with ⟨g1, g2, ad, rfl, had⟩ | ⟨b, st, cap, g1, g2, rfl, arr0, e0, fz0, g3, g4⟩
    · have hce : c = [] := by
        rcases hc2.hc.row k c h2 with ⟨_, q⟩ | ⟨b, st, q, _⟩
        · exact q
        · rw [g1] at q; cases q
      exact hlv fn _ ⟨_, h4, _, none, rfl, hgr, g2, hce, ad, rfl, fun x hx => let ⟨b, of, p, q, r⟩ := had x hx; ⟨b, of, p, fun ho => q (hsub b ho), r⟩⟩
    · rcases hc2.hc.row k c h2 with ⟨q, _⟩ | ⟨b', st', q, q2, q3, arr, e, q4, q5, q6⟩
      · rw [g1] at q; cases q
      · rw [g1] at q; cases q
        rw [q4] at g3
        cases g3
        refine hlv fn _ ⟨_, h4, _, some (b, st), rfl, hgr, Nat.le_of_not_lt q3, cap, g2, rfl, _, _, q4, q5, g4, fun j x hj => ?_⟩
        obtain ⟨v, p1, p2⟩ := q6 j x hj
        refine ⟨v, p1, (p2.plain (plainL_get h3 hj)).mono ⟨Nat.le_refl _, fun b' _ ho => ⟨rfl, fun hO' => ho (hO'.elim (hsub b') (fun e => e ▸ q2))⟩, fun b arr e fz hb => ⟨arr, fz, hb, rfl⟩⟩⟩
  have hw := h (fun y hy => by rw [hYn] at hy; cases hy) g _ O _ w ⟨fun y hy => (by rw [hYn] at hy; cases hy), fun _ _ => True.intro⟩ hcn
  rw [hro] at hw
  refine wpIn_mono hw fun e a w' hq => ?_
  cases e with
  | normal =>
    obtain ⟨g', β, O', σ, hl, _, h1, h2⟩ := hq
    have := hl hYn; subst this
    exact fin σ β O' a w' h1 h2
  | ret =>
    obtain ⟨g', β, O', σ, hl, _, h1, h2⟩ := hq
    have := hl hYn; subst this
    exact fin σ β O' a w' h1 h2
  | exit id =>
    obtain ⟨g', β, O', σ, hl, _, h1, h2⟩ := hq
    exact h1.elim
  | _ => exact hq.elim

theorem call_fresh {P : Program} {f : FuncId} {H : Hp} {nx : Nat} {avs avs' : List AV} {sz n : Nat} {c : List AV} {K : AV → Hp → Nat → Prop} (h : Fresh P f avs' sz n c) (hs : SbL avs avs') (hp : plainL avs' = true) (hK : K (.ls nx 0 sz n) (hset H nx (some c)) (nx + 1)) : CallM P f H nx avs K := by
  refine ⟨h.can, fun g β O w vs hc h0 hr => (h.run O w vs (rps_of hr hs hp) hc.own).mono fun e w' ⟨u, q, he, hg, hq⟩ => ?_⟩
  have hcg := hc.gr hg
  cases q with
  | none =>
    obtain ⟨rfl, rfl, a, rfl, ha⟩ := hq
    obtain ⟨h1, h2⟩ := hc_nil hcg
    exact ⟨_, _, _, _, _, O, he, hK, h1, Pr.of_gr hg h0, .lsn _ _ _ a (by simp) ha, Tr.of_gr hg, h2⟩
  | some p =>
    obtain ⟨b, st⟩ := p
    obtain ⟨hb, cap, hn, rfl, arr, e0, h1, h2, h3, h4⟩ := hq
    let O' : Nat → Prop := fun b' => O b' ∨ b' = b
    let β' : Bt := fun k => if k = nx then some (some (b, st)) else β k
    have hβ : ∀ k p, β k = some p → β' k = some p := by
      intro k p hk
      have : k ≠ nx := fun e => by rw [e, hc.fresh nx (Nat.le_refl _)] at hk; cases hk
      show (if _ = _ then _ else _) = _
      rw [if_neg this, hk]
    have ht : Tr O w O' w' := ⟨hg.size, fun b' hb' ho => ⟨hg.block b' hb', fun h => h.elim ho (fun e => by omega)⟩, fun b' arr e fz hb' => ⟨arr, fz, by rw [hg.block b' (lt_of_get hb')]; exact hb', rfl⟩⟩
    have hbk : Bk O w → Bk O' w' := fun h b' hb' => hb'.elim (fun h' => Nat.lt_of_lt_of_le (h b' h') hg.size) (fun e => by rw [e]; exact lt_of_get h1)
    have hlt : ∀ k b' st', H k ≠ none → β k = some (some (b', st')) → b' < w.heap.size := fun k b' st' hk hb' => by
      cases hq : H k with
      | none => exact absurd hq hk
      | some c' =>
        rcases hc.row k c' hq with ⟨q1, _⟩ | ⟨b'', st'', q1, _, _, q4⟩
        · rw [hb'] at q1; cases q1
        · rw [hb'] at q1; cases q1; exact q4.lt
    have old : ∀ k, k ≠ nx → hset H nx (some c) k = H k := fun k hk => by
      rw [hset', show (nx == k) = false by simpa using Ne.symm hk]
    refine ⟨_, _, _, _, β', O', he, hK, ⟨fun k c' hk => ?_, fun k k' b1 s1 s2 a1 a2 a3 a4 => ?_, hbk hc.own, fun b' hb' => ⟨.inl (hc.base b' hb').1, (hc.base b' hb').2⟩, fun k hk => ?_, fun k hk => ?_⟩, ⟨hg.os, hg.tape, hg.output, fun b' hb' => hg.block b' (h0 b' hb'), fun _ _ h => .inl h, hbk⟩, .ls _ _ _ _ b st cap (if_pos rfl) hn ⟨arr, e0, _, h1, h3⟩, ht, hβ⟩
    · by_cases hk' : k = nx
      · subst hk'
        rw [hset'] at hk
        simp at hk
        subst hk
        refine .inr ⟨b, st, if_pos rfl, .inr rfl, fun hB => by have := h0 b hB; omega, arr, e0, h1, h2, fun j x hj => ?_⟩
        obtain ⟨v, p1, p2⟩ := h4 j x hj
        exact ⟨v, p1, .pl _ _ p2⟩
      · rw [old k hk'] at hk
        rcases hc.row k c' hk with q | ⟨b1, s1, q1, q2, q3, q4⟩
        · exact .inl ⟨hβ _ _ q.1, q.2⟩
        · exact .inr ⟨b1, s1, hβ _ _ q1, .inl q2, q3, q4.mono ht hβ (hg.block b1 q4.lt)⟩
    · have a3' : (if k = nx then some (some (b, st)) else β k) = some (some (b1, s1)) := a3
      have a4' : (if k' = nx then some (some (b, st)) else β k') = some (some (b1, s2)) := a4
      by_cases e1 : k = nx <;> by_cases e2 : k' = nx
      · rw [e1, e2]
      · rw [if_pos e1] at a3'; rw [if_neg e2] at a4'
        rw [old k' e2] at a2
        have := hlt k' b1 s2 a2 a4'
        cases a3'
        omega
      · rw [if_neg e1] at a3'; rw [if_pos e2] at a4'
        rw [old k e1] at a1
        have := hlt k b1 s1 a1 a3'
        cases a4'
        omega
      · rw [if_neg e1] at a3'; rw [if_neg e2] at a4'
        rw [old k e1] at a1
        rw [old k' e2] at a2
        exact hc.inj k k' b1 s1 s2 a1 a2 a3' a4'
    · rw [old k (by omega)]; exact hc.free k (by omega)
    · show (if _ = _ then _ else _) = _
      rw [if_neg (by omega)]
      exact hc.fresh k (by omega)

theorem Fresh.pure {P : Program} {f : FuncId} {avs : List AV} {sz n : Nat} {c : List AV} (h : Fresh P f avs sz n c) (hl : c.length = n * sz) : Pure P f avs (.sl sz n c) := by
  refine ⟨h.can, fun O w vs hr hO => (h.run O w vs hr hO).mono fun e w' ⟨u, q, he, hg, hq⟩ => ⟨u, he, hg, ?_⟩⟩
  cases q with
  | none =>
    obtain ⟨rfl, rfl, a, rfl, ha⟩ := hq
    cases a with
    | none => exact .nil sz
    | some ad =>
      obtain ⟨b, of, rfl, ho, hb⟩ := ha ad rfl
      exact Rp.mk_sl ho hb (Nat.le_refl _) (by simp) (fun i c hi => by simp at hi)
  | some p =>
    obtain ⟨b, st⟩ := p
    obtain ⟨hb, cap, hn, rfl, arr, e0, h1, h2, h3, h4⟩ := hq
    have ho : ¬ O b := fun h => by have := hO b h; omega
    refine Rp.mk_sl ho (lt_of_get h1) hn hl fun j x hj => ?_
    obtain ⟨v, p1, p2⟩ := h4 j x hj
    exact ⟨v, by simp [World.cell?, h1, p1], p2.mono ⟨Nat.le_refl _, fun b' _ hn => ⟨rfl, fun hO' => hn (.inl hO')⟩, fun b arr e fz hb => ⟨arr, fz, hb, rfl⟩⟩⟩
end Go.Ab

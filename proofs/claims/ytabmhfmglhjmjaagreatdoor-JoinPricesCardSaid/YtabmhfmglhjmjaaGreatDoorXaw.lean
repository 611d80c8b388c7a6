/- Parts of the proof, put together by a program. -/
import Derived.Test.YtabmhfmglhjmjaaGreatDoorXac
import Derived.Test.YtabmhfmglhjmjaaGreatDoorXaf
import Derived.Test.YtabmhfmglhjmjaaGreatDoorXai
set_option linter.unusedSimpArgs false
set_option linter.unusedVariables false
set_option linter.unusedSectionVars false
namespace Go.Ab
variable [Dr]
open Go.RowKit
theorem v_rangeX {E : Ev} (hE : EvOk E) {mu : List Nat} {gop : Operand} {ps : Array Nat} {assign body : Code} {σ : St} {N Z : St → Prop} {X : Nat → St → Prop} {fid : FuncId} {cap cap' : List AV} {ys : Nat → Option (List AV)} {m : Nat}
    (Hs : Nat → Hp) (ns : Nat → Nat) (hg : σ.ge gop = .fn (.func fid) [] cap) (hcs : SbL cap cap') (hcp : plainL cap' = true) (hit : IterA E.P fid cap' ys (fun t => t != m) (m + 1)) (hym : ∀ t avs, ys t = some avs → t ≤ m) (h0 : σ.hp = Hs 0) (h0' : σ.nx = ns 0)
    (hys : ∀ t avs, ys t = some avs → avs.length = ps.toList.length) (hps : ∀ p ∈ ps.toList, p < σ.n.1)
    (hround : ∀ t avs l, ys t = some avs → VC (E.inR l) mu assign ⟨fun σ1 => VC (E.inR l) mu body ⟨fun σ' => t ≠ m ∧ endR (Hs (t + 1)) (ns (t + 1)) σ', fun _ _ => False, fun σ' => t = m ∧ endR (Hs (t + 1)) (ns (t + 1)) σ'⟩ σ1, fun _ _ => False, fun _ => False⟩ ⟨putL ps.toList avs σ.fr, Hs t, ns t, (σ.n.1, σ.nx, 0)⟩)
    (hZ : Z { σ with hp := Hs (m + 1), nx := ns (m + 1) }) (hro : E.ro = none := by rfl) (hYn : E.Y = none := by rfl) : VC E mu (.rangeFunc gop ps assign body) ⟨N, X, Z⟩ σ := by
  intro hY g β O a w hf hc
  have hmark : g.mark := hf.2 hYn hro
  obtain ⟨us, vs, hgv, hus, hvs, hu, hv⟩ := (show R β O w (.fn (.func fid) [] cap) (a.eval gop) from hg ▸ hc.ge gop).fn_inv
  have hus0 : us = #[] := Array.eq_empty_of_size_eq_zero (by simpa using hus)
  subst hus0
  rw [hro]
  show (Code.rangeFunc gop ps assign body).wpIn Fence.wide 0 E.P _ a w
  refine wpIn_rangeFunc ?_
  intro fn hfn
  obtain ⟨rec, hrec⟩ : ∃ rec : LoopState → Option Code → Loop, rec = fun st pe => { state := st, pending := pe, fn, tmps := a.tmps, params := ps, assign, body, defers := w.heap.size } := ⟨_, rfl⟩
  obtain ⟨W1, hW1⟩ : ∃ W1, (w.alloc (.deferred (some []))).alloc (.loop (rec .ready none)) = W1 := ⟨_, rfl⟩
  let D := w.heap.size
  let l := w.heap.size + 1
  have hL1 : W1.heap[l]? = some (.loop (rec .ready none)) := by
    rw [← hW1]; have := World.alloc_heap_new (w.alloc (.deferred (some []))) (.loop (rec .ready none)); rwa [World.size_alloc] at this
  have hD1 : W1.heap[D]? = some (.deferred (some [])) := by
    rw [← hW1]; exact (Below.heap_alloc _ _ _ (by simp [D])).trans (World.alloc_heap_new w _)
  have hg1 : Gr w W1 := by
    rw [← hW1]; exact ((Gr.refl w).alloc _).alloc _
  have hsz1 : W1.heap.size = w.heap.size + 2 := by rw [← hW1]; simp
  obtain ⟨rt, hrt⟩ : ∃ rt : Nat → Loop, rt = fun t => if t ≤ m then rec .ready none else rec .done (some .ret) := ⟨_, rfl⟩
  have hrt0 : ∀ t, t ≤ m → rt t = rec .ready none := fun t h => by rw [hrt]; exact if_pos h
  have hrtX : ∀ t, rt t ≠ rec .busy none := fun t h => by rw [hrt, hrec] at h; dsimp only at h; split at h <;> cases h
  let O1 : Nat → Prop := fun b => O b ∨ b = D ∨ b = l
  have ht1 : Tr O w O1 W1 := ⟨hg1.size, fun b hb ho => ⟨hg1.block b hb, fun h => h.elim ho (fun h => by simp only [D, l] at h; omega)⟩, fun b arr e fz hb => ⟨arr, fz, by rw [hg1.block b (lt_of_get hb)]; exact hb, rfl⟩⟩
  have hbk1 : Bk O1 W1 := fun b hb => by
    rw [hsz1]
    rcases hb with hb | hb | hb
    · have := hc.hc.own.1 b hb; omega
    · simp only [D] at hb; omega
    · simp only [l] at hb; omega
  have hp1 : Pr g.B0 O w O1 W1 := ⟨hg1.os, hg1.tape, hg1.output, hg1.drawn, fun b hb => hg1.block b (hc.b0 b hb), fun b _ ho => .inl ho, fun h => h.tr ht1 hbk1⟩
  let y : Yd := { l := l, ys := ys, I := fun t B O' w' => ∃ β' : Bt, HC g.B0 g.O0 β' O' (Hs t) (ns t) w' ∧ (∀ k b st, Hs t k ≠ none → β' k = some (some (b, st)) → B b) ∧ (∀ k q, β k = some q → β' k = some q) ∧ Tr O w O' w' ∧ g.inv O' w' ∧
    w'.heap[l]? = some (.loop (rt t)) ∧ w'.heap[D]? = some (.deferred (some [])) ∧ O' l ∧ O' D ∧ (∀ b, b < w.heap.size + 2 → B b), an := fun t => t != m }
  have rowB : ∀ {B0 O0 : Nat → Prop} {β' : Bt} {O' : Nat → Prop} {H : Hp} {nx : Nat} {w' : World}, HC B0 O0 β' O' H nx w' → ∀ k b st, H k ≠ none → β' k = some (some (b, st)) → O' b ∧ ¬ B0 b ∧ ∃ arr e, w'.heap[b]? = some (Obj.cells arr e (0, 0)) := by
    intro B0 O0 β' O' H nx w' hh k b st hk hb
    cases hq : H k with
    | none => exact absurd hq hk
    | some c =>
      rcases hh.row k c hq with ⟨h1, _⟩ | ⟨b', st', h1, h2, h3, arr, e, h4, _⟩
      · rw [hb] at h1; cases h1
      · rw [hb] at h1; cases h1; exact ⟨h2, h3, arr, e, h4⟩
  have hyok : YdOk E.P y := by
    constructor
    · intro t B O2 w2 O3 w3 ⟨β', h1, h2, h3, h4, h5, h6, h7, h8, h9, h10⟩ ht hp
      have hBsub : ∀ b, g.B0 b → B b := fun b hb => h10 b (by have := hc.b0 b hb; omega)
      have hl : B l := h10 l (by simp only [l]; omega)
      have hD : B D := h10 D (by simp only [D]; omega)
      refine ⟨β', ⟨fun k c hk => ?_, h1.inj, hp.bk h1.own, fun b hb => ⟨hp.own b (hBsub b (h1.base b hb).2) (h1.base b hb).1, (h1.base b hb).2⟩, h1.free, h1.fresh⟩, h2, h3, h4.trans ht, g.stab _ _ _ _ h5 ht (hp.mono hBsub), (hp.block l hl).trans h6, (hp.block D hD).trans h7, hp.own l hl h8, hp.own D hD h9, h10⟩
      rcases h1.row k c hk with q | ⟨b, st, q1, q2, q3, q4⟩
      · exact .inl q
      · have hb : B b := h2 k b st (by rw [hk]; simp) q1
        exact .inr ⟨b, st, q1, hp.own b hb q2, q3, q4.mono ht (fun _ _ h => h) (hp.block b hb)⟩
    · intro t avs B O2 w2 vs2 hyst hrps ⟨β', h1, h2, h3, h4, h5, h6, h7, h8, h9, h10⟩ hO2 hB2
      rw [hrt0 t (hym t avs hyst)] at h6
      have hlen : vs2.size = ps.size := by rw [hrps.1, hys t avs hyst]; simp
      have hyield := run_yield (P := E.P) (args := vs2) h6 (by rw [hrec]; exact hlen)
      refine ⟨_, _, _, _, hyield, roundIn_of_wpIn hfn ?_⟩
      let X0 : Nat → Prop := fun b => ∃ k st, Hs t k ≠ none ∧ β' k = some (some (b, st))
      let gB : Nat → Prop := fun b => b < w2.heap.size ∧ ¬ X0 b
      let gO : Nat → Prop := fun b => O2 b ∧ gB b
      let gr : (Nat → Prop) → World → Gh := fun Oa wa => { B0 := gB, O0 := gO, inv := fun O' w' => Pr gB Oa wa O' w' ∧ Tr Oa wa O' w', mark := False, stab := fun O1 w1 O2 w2 h1 h2 h3 => ⟨h1.1.trans h3, h1.2.trans h2⟩, p := σ.nx, βp := β, Op := O, wp := w, hp := hc.hc.fresh }
      have hlX : gB l := ⟨lt_of_get h6, fun ⟨k, st, hk, hb⟩ => by
        obtain ⟨_, _, arr, e, hcell⟩ := rowB h1 k l st hk hb
        rw [h6] at hcell; cases hcell⟩
      have hDX : gB D := ⟨lt_of_get h7, fun ⟨k, st, hk, hb⟩ => by
        obtain ⟨_, _, arr, e, hcell⟩ := rowB h1 k D st hk hb
        rw [h7] at hcell; cases hcell⟩
      have hlD : D ≠ l := by simp only [D, l]; omega
      have hgBg : ∀ b, g.B0 b → gB b := fun b hb => ⟨by have := hc.b0 b hb; have := h4.size; omega, fun ⟨k, st, hk, hbk⟩ => (rowB h1 k b st hk hbk).2.1 hb⟩
      have hgl : ∀ b, g.B0 b → b ≠ l := fun b hb e => by have := hc.b0 b hb; simp only [l] at e; omega
      have hcf : Cf (gr O2 w2) β' O2 (lk σ.fr) (Hs t) (ns t) (σ.n.1, σ.nx, 0) { tmps := a.tmps, defers := [] } w2 := by
        refine ⟨DefOk.nil _ _ _ _, fun t av ht => let ⟨u, p, q⟩ := hc.fr t av ht; ⟨u, p, q.mono h4 h3⟩, hc.sz, ⟨fun k c hk => ?_, h1.inj, h1.own, fun b hb => hb, h1.free, h1.fresh⟩, ⟨Pr.refl _ _ _, Tr.refl _ _⟩, fun b hb => hb.1, Nat.le_refl _, h3, h4⟩
        rcases h1.row k c hk with q | ⟨b, st, q1, q2, q3, q4⟩
        · exact .inl q
        · exact .inr ⟨b, st, q1, q2, fun hb => hb.2 ⟨k, st, by rw [hk]; simp, q1⟩, q4⟩
      have hcp2 := putL_cf ps.toList avs vs2.toList σ.fr a.tmps [] hcf (hys t avs hyst) (by simpa using hrps) hps
      have htm : (rec .ready none).tmps = a.tmps := by rw [hrec]
      have hpm : (rec .ready none).params = ps := by rw [hrec]
      have ham : (rec .ready none).assign = assign := by rw [hrec]
      have hbm : (rec .ready none).body = body := by rw [hrec]
      have hfold : ((rec .ready none).params.zip vs2).foldl (fun (t : Array Value) (x : Tmp × Value) => t.setIfInBounds x.1 x.2) (rec .ready none).tmps = (ps.toList.zip vs2.toList).foldl (fun t x => t.setIfInBounds x.1 x.2) a.tmps := by
        rw [htm, hpm, ← Array.foldl_toList, Array.toList_zip]
      have hYr : YOk (E.inR l) := fun y hy => by rw [inR_Y, hYn] at hy; cases hy
      have hfit : ∀ (g' : Gh) (σ' : St), Fit (E.inR l) g' σ' := fun g' σ' => ⟨fun y hy => by (rw [inR_Y, hYn] at hy; cases hy), fun _ e => by cases e⟩
      have hwp := hround t avs l hyst hYr (gr O2 w2) β' O2 _ w2 (hfit _ _) hcp2
      rw [ham, hbm]
      have hact : ({ tmps := ((rec .ready none).params.zip vs2).foldl (fun (t : Array Value) (x : Tmp × Value) => t.setIfInBounds x.1 x.2) (rec .ready none).tmps, defers := [] } : Act) = { tmps := (ps.toList.zip vs2.toList).foldl (fun t x => t.setIfInBounds x.1 x.2) a.tmps, defers := [] } := by rw [hfold]
      refine hact ▸ wpIn_mono hwp fun e a1 w1 hq => ?_
      cases e with
      | normal =>
        obtain ⟨g1, β1, O3, σ1, hle1, _, hVC1, hc1⟩ := hq
        have := hle1 hYn; subst this
        have hl1 : w1.heap[l]? = some (.loop (rec .ready none)) := (hc1.inv.1.block l hlX).trans h6
        have hO3l : O3 l := (hc1.hc.base l ⟨h8, hlX⟩).1
        have hnc : ∀ (r : Loop) (arr : Array Value) (e : TypeId) (fz : Nat × Nat), Obj.loop r ≠ Obj.cells arr e fz := fun _ _ _ _ h => by cases h
        have hrb := run_beginRound (P := E.P) hl1 (by rw [hrec])
        have ht1' := tr_obj (Obj.loop { rec .ready none with state := .busy }) hl1 (hnc _) hO3l
        have hcn1 : Cn (gr O3 (w1.putObj l (.loop { rec .ready none with state := .busy }))) β1 O3 σ1 a1 (w1.putObj l (.loop { rec .ready none with state := .busy })) :=
          ⟨hc1.defers.tr ht1', fun t av ht => let ⟨u, p, q⟩ := hc1.fr t av ht; ⟨u, p, q.mono ht1' (fun _ _ h => h)⟩, hc1.sz, hc_obj _ hl1 (hnc _) hO3l hc1.hc, ⟨Pr.refl _ _ _, Tr.refl _ _⟩, fun b hb => by simpa using hc1.b0 b hb, hc1.pp, hc1.prot, hc1.tr.trans ht1'⟩
        have fin : ∀ (jump : Option Code) (a3 : Act) (w3 : World), (t ≠ m ∧ jump = none ∨ t = m ∧ jump = some .ret) → NxtP (E.inR l) (gr O3 (w1.putObj l (.loop { rec .ready none with state := .busy }))) (endR (Hs (t + 1)) (ns (t + 1))) a3 w3 →
            ∃ (v : Value) (w4 : World), (Instr.endRound l jump).run E.P w3 = .ok v w4 ∧ (Ending.returned v = .returned (.bool (y.an t)) ∧ ∃ B' O', y.I (t + 1) B' O' w4 ∧ Rnd B O2 w2 B' O' w4) := by
          rintro jump a3 w3 hj ⟨g2, β2, O4, σ2, hle2, _, ⟨σ3, he, hhp, hnx⟩, hc2⟩
          have := hle2 hYn; subst this
          obtain ⟨β3, O5, hc3⟩ := he.2 _ _ _ _ _ hc2
          have hl3 : w3.heap[l]? = some (.loop { rec .ready none with state := .busy }) := (hc3.inv.1.block l hlX).trans (World.putObj_heap_same (lt_of_get hl1))
          have hre := run_endRound (P := E.P) jump hl3
          have hO5l : O5 l := (hc3.hc.base l ⟨h8, hlX⟩).1
          have hrr : ({ { rec .ready none with state := .busy } with state := if jump.isNone then .ready else .done, pending := jump } : Loop) = rt (t + 1) := by
            rw [hrt, hrec]
            rcases hj with ⟨h1, rfl⟩ | ⟨h1, rfl⟩
            · have := hym t avs hyst; dsimp only; rw [if_pos (show t + 1 ≤ m by omega)]; rfl
            · dsimp only; rw [if_neg (show ¬ t + 1 ≤ m by omega)]; rfl
          have han : y.an t = jump.isNone := by
            show (t != m) = jump.isNone
            rcases hj with ⟨h1, rfl⟩ | ⟨h1, rfl⟩
            · simpa using h1
            · simpa using h1
          rw [hrr] at hre
          have ht5 := tr_obj (Obj.loop (rt (t + 1))) hl3 (hnc _) hO5l
          have hT : Tr O2 w2 O5 (w3.putObj l (.loop (rt (t + 1)))) := hc1.inv.2.trans (ht1'.trans (hc3.inv.2.trans ht5))
          have hblock : ∀ b, gB b → b ≠ l → (w3.putObj l (.loop (rt (t + 1)))).heap[b]? = w2.heap[b]? := fun b hb hne =>
            (World.putObj_heap_other hne).trans ((hc3.inv.1.block b hb).trans ((World.putObj_heap_other hne).trans (hc1.inv.1.block b hb)))
          have hown : ∀ b, gB b → O2 b → O5 b := fun b hb ho => (hc3.hc.base b ⟨ho, hb⟩).1
          have hc4 := hc_obj (Obj.loop (rt (t + 1))) hl3 (hnc _) hO5l hc3.hc
          rw [hhp, hnx] at hc4
          have hsz3 : (w3.putObj l (.loop (rt (t + 1)))).heap.size = w3.heap.size := World.putObj_size
          have hpr : Pr g.B0 O2 w2 O5 (w3.putObj l (.loop (rt (t + 1)))) :=
            ⟨hc3.inv.1.os.trans hc1.inv.1.os, hc3.inv.1.tape.trans hc1.inv.1.tape, hc3.inv.1.output.trans hc1.inv.1.output, hc1.inv.1.drawn.trans hc3.inv.1.drawn, fun b hb => hblock b (hgBg b hb) (hgl b hb), fun b hb ho => hown b (hgBg b hb) ho, fun _ => hc4.own⟩
          refine ⟨_, _, hre, by rw [han], fun b => B b ∨ (w2.heap.size ≤ b ∧ b < w3.heap.size), O5, ?_, ?_⟩
          · refine ⟨β3, ⟨fun k c hk => ?_, hc4.inj, hc4.own, fun b hb => ⟨hown b (hgBg b (h1.base b hb).2) (h1.base b hb).1, (h1.base b hb).2⟩, hc4.free, hc4.fresh⟩, fun k b st hk hb => ?_, hc3.prot, hc3.tr.trans ht5, g.stab _ _ _ _ h5 hT hpr, World.putObj_heap_same (lt_of_get hl3), (hblock D hDX hlD).trans h7, hO5l, hown D hDX h9, fun b hb => .inl (h10 b hb)⟩
            · rcases hc4.row k c hk with q | ⟨b, st, q1, q2, q3, q4⟩
              · exact .inl q
              · exact .inr ⟨b, st, q1, q2, fun hb => q3 (hgBg b hb), q4⟩
            · obtain ⟨_, q, arr, e, hcell⟩ := rowB hc4 k b st hk hb
              by_cases hlt : b < w2.heap.size
              · have hx : X0 b := Classical.byContradiction fun hn => q ⟨hlt, hn⟩
                obtain ⟨k', st', hk', hb'⟩ := hx
                exact .inl (h2 k' b st' hk' hb')
              · have := lt_of_get hcell
                exact .inr ⟨by omega, by omega⟩
          · refine ⟨hT, fun b hb ho hnb => ?_, fun b hb => .inl hb, fun b hb h => h.elim id (fun h => by omega), hc4.own.1, fun b hb => hb.elim (fun h => Nat.lt_of_lt_of_le (hB2 b h) hT.size) (fun h => by rw [hsz3]; exact h.2)⟩
            have hgb : gB b := ⟨hb, fun ⟨k, st, hk, hbk⟩ => hnb (h2 k b st hk hbk)⟩
            have hne : b ≠ l := fun e => hnb (h10 b (by simp only [l] at e; omega))
            exact ⟨hblock b hgb hne, hown b hgb ho, fun h => h.elim hnb (fun h => by omega)⟩
        refine ⟨_, hrb, wpIn_mono (hVC1 hYr (gr O3 _) β1 O3 a1 _ (hfit _ _) hcn1) fun e a3 w3 hq => ?_⟩
        cases e with
        | normal =>
          obtain ⟨g2, β2, O4, σ2, hle2, hf2, ⟨htm, he⟩, hc2⟩ := hq
          exact fin none a3 w3 (.inl ⟨htm, rfl⟩) ⟨g2, β2, O4, σ2, hle2, hf2, he, hc2⟩
        | ret =>
          obtain ⟨g2, β2, O4, σ2, hle2, hf2, ⟨htm, he⟩, hc2⟩ := hq
          exact fin (some .ret) a3 w3 (.inr ⟨htm, rfl⟩) ⟨g2, β2, O4, σ2, hle2, hf2, he, hc2⟩
        | exit id => obtain ⟨_, _, _, _, _, _, h, _⟩ := hq; exact h.elim
        | _ => exact hq.elim
      | ret => obtain ⟨_, _, _, _, _, _, h, _⟩ := hq; exact h.elim
      | exit id => obtain ⟨_, _, _, _, _, _, h, _⟩ := hq; exact h.elim
      | _ => exact hq.elim
  have hrs : Rs β O w cap vs := ⟨hvs, hv⟩
  have hpend : (rt (m + 1)).pending = some .ret := by rw [hrt, hrec]; dsimp only; rw [if_neg (by omega)]
  have hst : (rt (m + 1)).state = .done := by rw [hrt, hrec]; dsimp only; rw [if_neg (by omega)]
  refine ⟨l, [mark1 D], W1, { target := .fn (.func fid) vs, args := #[.func (.yield l) #[] #[]] }, W1, fid, #[.func (.yield l) #[] #[]] ++ vs, W1, ?_, ?_, ?_, ?_, ?_, ?_⟩
  · rw [← hW1, hrec]; exact run_enterLoop_outer _ _ _ _ _
  · simp only [resolve, hgv]
    simp [go_sem]
  · intro f' _; exact True.intro
  · simp [invoke, go_sem, hit.can _ _]
  · intro h; cases h
  · refine (callsIn_wide (n := 0 - 1)).2 ((hit.run y hyok rfl rfl O1 W1 vs ?_ (hc.hc.own.tr ht1 hbk1) ?_).mono ?_)
    · have := rps_of hrs hcs hcp
      exact ⟨this.1, fun i x hx => let ⟨u, p, q⟩ := this.2 i x hx; ⟨u, p, q.mono ht1⟩⟩
    · refine ⟨β, ⟨fun k c hk => ?_, ?_, hc.hc.own.tr ht1 hbk1, fun b hb => ⟨.inl (hc.hc.base b hb).1, (hc.hc.base b hb).2⟩, ?_, ?_⟩, fun k b st hk hb => ?_, fun k q h => h, ht1, g.stab _ _ _ _ hc.inv ht1 hp1, by rw [hrt0 0 (Nat.zero_le _)]; exact hL1, hD1, .inr (.inr rfl), .inr (.inl rfl), fun b hb => ?_⟩
      · rw [← h0] at hk
        rcases hc.hc.row k c hk with q | ⟨b, st, q1, q2, q3, q4⟩
        · exact .inl q
        · exact .inr ⟨b, st, q1, .inl q2, q3, q4.mono ht1 (fun _ _ h => h) (hg1.block b q4.lt)⟩
      · rw [← h0]; exact hc.hc.inj
      · rw [← h0, ← h0']; exact hc.hc.free
      · rw [← h0']; exact hc.hc.fresh
      · rw [← h0] at hk
        obtain ⟨_, _, arr, e, hcell⟩ := rowB hc.hc k b st hk hb
        have := lt_of_get hcell
        show b < W1.heap.size
        omega
      · show b < W1.heap.size
        omega
    · rintro e w3 ⟨⟨u, rfl⟩, B', O3, β', h1, h2, h3, h4, h5, h6, h7, h8, h9, h10⟩
      have hend := run_endLoop (P := E.P) h6 (by rw [hst]; simp)
      rw [hpend] at hend
      obtain ⟨o', hnc, hend⟩ : ∃ o', (∀ arr e fz, o' ≠ Obj.cells arr e fz) ∧ (Instr.endLoop l).run E.P w3 = .ok (some .ret) (w3.putObj l o') := ⟨_, fun _ _ _ h => (by cases h), hend⟩
      refine ⟨some .ret, _, hend, wpIn_ret ?_⟩
      have hnc0 : ∀ (r : Loop) (arr : Array Value) (e : TypeId) (fz : Nat × Nat), Obj.loop r ≠ Obj.cells arr e fz := fun _ _ _ _ h => by cases h
      have hlD : D ≠ l := by simp only [D, l]; omega
      let O4 : Nat → Prop := fun b => O3 b ∧ b ≠ D
      have hto := tr_obj o' h6 (hnc0 _) h8
      have hsh : Tr O3 (w3.putObj l o') O4 (w3.putObj l o') := ⟨Nat.le_refl _, fun b _ ho => ⟨rfl, fun h => ho h.1⟩, fun b arr e fz hb => ⟨arr, fz, hb, rfl⟩⟩
      have ht := hto.trans hsh
      have hpd : Pr g.B0 O3 w3 O4 (w3.putObj l o') :=
        ⟨rfl, rfl, rfl, .of (Nat.le_refl _), fun b hb => World.putObj_heap_other (fun e => by have := hc.b0 b hb; simp only [l] at e; omega), fun b hb ho => ⟨ho, fun e => by have := hc.b0 b hb; simp only [D] at e; omega⟩, fun h => h.tr ht (fun b hb => by simpa using h.1 b hb.1)⟩
      have hhc := hc_obj o' h6 (hnc0 _) h8 h1
      have hDw : (w3.putObj l o').heap[D]? = some (.deferred (some [])) := (World.putObj_heap_other hlD).trans h7
      refine ⟨g, β', O4, { σ with hp := Hs (m + 1), nx := ns (m + 1) }, Le.refl _ _, hf.n rfl, hZ, ⟨?_, fun t av hta => let ⟨u, p, q⟩ := hc.fr t av hta; ⟨u, p, q.mono (h4.trans ht) h3⟩, hc.sz, ⟨fun k c hk => ?_, hhc.inj, hhc.own.tr hsh (fun b hb => hhc.own.1 b hb.1), fun b hb => ⟨⟨(hhc.base b hb).1, fun e => by have := hc.b0 b (h1.base b hb).2; simp only [D] at e; omega⟩, (hhc.base b hb).2⟩, hhc.free, hhc.fresh⟩, g.stab _ _ _ _ h5 ht hpd, fun b hb => ?_, hc.pp, fun k q hq => h3 _ _ (hc.prot k q hq), hc.tr.trans (h4.trans ht)⟩⟩
      · have hd := hc.defers.tr (h4.trans ht)
        obtain ⟨Ds, d1, d2, d3⟩ := hd.ds
        obtain ⟨Ds', d1', _, d3'⟩ := hc.defers.ds
        have hlt : ∀ D' ∈ Ds, D' < w.heap.size := by
          have : Ds = Ds' := by
            have := d1.symm.trans d1'
            exact (List.map_inj_right (fun x y h => by simpa [mark1] using h)).1 this
          subst this
          exact fun D' hD' => lt_of_get (d3' D' hD').2.2
        refine ⟨fun _ => hmark, D :: Ds, by simp [d1], List.nodup_cons.2 ⟨fun h => by have := hlt _ h; simp only [D] at this; omega, d2⟩, fun D' hD' => ?_⟩
        rcases List.mem_cons.1 hD' with e | hD'
        · subst e
          exact ⟨fun h => h.2 rfl, fun h => by have := hc.b0 _ h; simp only [D] at this; omega, hDw⟩
        · exact d3 D' hD'
      · rcases hhc.row k c hk with q | ⟨b, st, q1, q2, q3, q4⟩
        · exact .inl q
        · refine .inr ⟨b, st, q1, ⟨q2, fun e => ?_⟩, q3, q4.mono hsh (fun _ _ h => h) rfl⟩
          obtain ⟨arr, e', hcell, _⟩ := q4
          rw [e, hDw] at hcell
          cases hcell
      · have := hc.b0 b hb
        have := h4.size
        simp
        omega
theorem i4 {a b c d : AV} {i : Nat} {x : AV} (h : [a, b, c, d][i]? = some x) : (i = 0 ∧ x = a) ∨ (i = 1 ∧ x = b) ∨ (i = 2 ∧ x = c) ∨ (i = 3 ∧ x = d) := by
  match i, h with
  | 0, h => exact .inl ⟨rfl, by simpa using h.symm⟩
  | 1, h => exact .inr (.inl ⟨rfl, by simpa using h.symm⟩)
  | 2, h => exact .inr (.inr (.inl ⟨rfl, by simpa using h.symm⟩))
  | 3, h => exact .inr (.inr (.inr ⟨rfl, by simpa using h.symm⟩))
  | i + 4, h => simp at h
theorem callOk_boxq {P : Program} {f gf : FuncId} {H : Hp} {nx : Nat} {a0 a1 a2 c0 c1 c3 : AV} {k off sz n : Nat} (hp : plainL [a0, a1, a2] = true)
    (h : ∀ (a : Option Addr) (q r : Nat), Pure P f [a0, a1, a2, .v (.slice a q r)] (.fn (.func gf) [] [c0, c1, .pt [.v (.slice a q r)] 0, c3])) :
    CallOk P f H nx [a0, a1, a2, .ls k off sz n] (.fn (.func gf) [] [c0, c1, .qt [.ls k off sz n] 0, c3]) := by
  refine ⟨(h none 0 0).can, fun B0 O0 β O w vs hc hB hr => ?_⟩
  obtain ⟨u, hu, hru⟩ := hr.2 3 _ rfl
  obtain ⟨sa, sq, sr, hsu⟩ : ∃ a q r, u = .slice a q r := by
    rcases hru.ls_inv with ⟨_, _, a, h, _⟩ | ⟨b, st, cap, _, _, h, _⟩
    · exact ⟨_, _, _, h⟩
    · exact ⟨_, _, _, h⟩
  have h := h sa sq sr
  rw [← hsu] at h
  simp only [plainL, Bool.and_eq_true] at hp
  have hrps : Rps O w [a0, a1, a2, .v u] vs := by
    refine ⟨hr.1, fun i a ha => ?_⟩
    rcases i4 ha with ⟨rfl, rfl⟩ | ⟨rfl, rfl⟩ | ⟨rfl, rfl⟩ | ⟨rfl, rfl⟩
    · obtain ⟨x, h1, h2⟩ := hr.2 0 _ rfl; exact ⟨x, h1, h2.plain hp.1⟩
    · obtain ⟨x, h1, h2⟩ := hr.2 1 _ rfl; exact ⟨x, h1, h2.plain hp.2.1⟩
    · obtain ⟨x, h1, h2⟩ := hr.2 2 _ rfl; exact ⟨x, h1, h2.plain hp.2.2.1⟩
    · exact ⟨u, hu, .v u⟩
  refine (h.run O w vs hrps hc.own).mono fun e w' ⟨v, h1, h2, h3⟩ => ⟨v, h1, h2, ?_⟩
  obtain ⟨us, ws, rfl, hs, ht, hus, hws⟩ := (show R β O w' _ v from .pl _ _ h3).fn_inv
  refine R.mk_fn hs (by simpa using ht) hus fun i c hi => ?_
  rcases i4 hi with ⟨rfl, rfl⟩ | ⟨rfl, rfl⟩ | ⟨rfl, rfl⟩ | ⟨rfl, rfl⟩
  · exact hws 0 _ rfl
  · exact hws 1 _ rfl
  · obtain ⟨x, h4, h5⟩ := hws 2 _ rfl
    refine ⟨x, h4, ?_⟩
    obtain ⟨b, o, hO, hb, rfl, hcell⟩ := h5.pt_inv
    obtain ⟨y, h6, h7⟩ := hcell 0 _ rfl
    rw [h7.v_inv] at h6
    refine .qt _ 0 b o (fun _ => u) hO hb (fun j z hz => ?_) (fun j z hz => ?_)
    · cases j with
      | zero => exact h6
      | succ j => simp at hz
    · cases j with
      | zero => simp at hz; subst hz; exact hru.gr h2
      | succ j => simp at hz
  · exact hws 3 _ rfl
theorem callOk_useq {P : Program} {f gf : FuncId} {H : Hp} {nx : Nat} {c0 c1 c3 : AV} {k off sz n : Nat} {c : List AV} {x : Value} (hp : plainL [c0, c1, c3] = true) (hk : H k = some c) (hpc : plainL c = true) (hle : off + n * sz ≤ c.length)
    (h : Pure P f [.fn (.func gf) [] [c0, c1, .pt [.sl sz n ((c.drop off).take (n * sz))] 0, c3]] (.v x)) : CallOk P f H nx [.fn (.func gf) [] [c0, c1, .qt [.ls k off sz n] 0, c3]] (.v x) := by
  refine ⟨h.can, fun B0 O0 β O w vs hc hB hr => ?_⟩
  simp only [plainL, Bool.and_eq_true] at hp
  let O' : Nat → Prop := fun b => O b ∧ ∀ st, β k ≠ some (some (b, st))
  have ht : Tr O w O' w := ⟨Nat.le_refl _, fun b hb ho => ⟨rfl, fun h => ho h.1⟩, fun b arr e fz hb => ⟨arr, fz, hb, rfl⟩⟩
  have hsl : ∀ u, R β O w (.ls k off sz n) u → R β O' w (.sl sz n ((c.drop off).take (n * sz))) u := by
    intro u hx
    rcases hx.ls_inv with ⟨h1, rfl, ad, rfl, had⟩ | ⟨b, st, cap, h1, hn, rfl, _⟩
    · simp only [Nat.zero_mul, List.take_zero]
      exact .pl _ _ (.nla sz ad)
    · rcases hc.row k c hk with ⟨h1', _⟩ | ⟨b', st', h1', _, _, hrow⟩
      · rw [h1] at h1'; cases h1'
      rw [h1] at h1'; cases h1'
      refine .pl _ _ (Rp.mk_sl (fun h => h.2 st h1) hrow.lt hn (by simp; omega) fun i y hi => ?_)
      rw [List.getElem?_take] at hi
      split at hi
      · rw [List.getElem?_drop] at hi
        rw [Nat.add_assoc]
        obtain ⟨v, p, q⟩ := hrow.cell hi
        exact ⟨v, p, (q.plain (plainL_get hpc hi)).mono ht⟩
      · cases hi
  obtain ⟨u0, hu0, hr0⟩ := hr.2 0 _ rfl
  have hrd : R β O' w (.fn (.func gf) [] [c0, c1, .pt [.sl sz n ((c.drop off).take (n * sz))] 0, c3]) u0 := by
    obtain ⟨us, ws, rfl, hs, ht', hus, hws⟩ := hr0.fn_inv
    refine R.mk_fn hs (by simpa using ht') (fun i a hi => by simp at hi) fun i a hi => ?_
    rcases i4 hi with ⟨rfl, rfl⟩ | ⟨rfl, rfl⟩ | ⟨rfl, rfl⟩ | ⟨rfl, rfl⟩
    · obtain ⟨y, h1, h2⟩ := hws 0 _ rfl; exact ⟨y, h1, h2.mono ht (fun _ _ h => h)⟩
    · obtain ⟨y, h1, h2⟩ := hws 1 _ rfl; exact ⟨y, h1, h2.mono ht (fun _ _ h => h)⟩
    · obtain ⟨y, h1, h2⟩ := hws 2 _ rfl
      refine ⟨y, h1, ?_⟩
      obtain ⟨b, o, hO, hb, rfl, hcell⟩ := h2.qt_inv
      obtain ⟨z, h3, h4⟩ := hcell 0 _ rfl
      refine .pl _ _ (Rp.mk_pt (fun h => hO h.1) hb fun j q hj => ?_)
      cases j with
      | zero => simp at hj; subst hj; exact ⟨z, h3, (hsl z h4).plain rfl⟩
      | succ j => simp at hj
    · obtain ⟨y, h1, h2⟩ := hws 3 _ rfl; exact ⟨y, h1, h2.mono ht (fun _ _ h => h)⟩
  have hpl : AV.plain (.fn (.func gf) [] [c0, c1, .pt [.sl sz n ((c.drop off).take (n * sz))] 0, c3]) = true := by
    simp only [AV.plain, plainL, hp.1, hp.2.1, hp.2.2.1, Bool.and_self]
  have hrps : Rps O' w [.fn (.func gf) [] [c0, c1, .pt [.sl sz n ((c.drop off).take (n * sz))] 0, c3]] vs := by
    refine ⟨hr.1, fun i a ha => ?_⟩
    cases i with
    | zero => simp at ha; subst ha; exact ⟨u0, hu0, hrd.plain hpl⟩
    | succ i => simp at ha
  refine (h.run O' w vs hrps (hc.own.tr ht fun b hb => hc.own.1 b hb.1)).mono fun e w' ⟨v, h1, h2, h3⟩ => ⟨v, h1, h2, ?_⟩
  rw [h3.v_inv]
  exact R.vv x
end Go.Ab
set_option maxRecDepth 100000
set_option maxHeartbeats 4000000
set_option linter.unusedSimpArgs false
set_option linter.unusedVariables false
set_option linter.unusedSectionVars false
namespace Go.Proofs.YtabmhfmglhjmjaaGreatDoor
open Go.Ab Go.RowKit
variable [Dr]
def pvP (pp : List (List Int)) (k i : Nat) : Int := gi (gS pp k) (i : Nat)
def bfC (ts : List Tf) (G : Nat) (c : Int) (pp : List (List Int)) (k j n : Nat) : List Int := costsTo (devRow ts G k) (fun i => pvP pp k i + chg c i j) n
theorem bfC_succ (ts : List Tf) (G : Nat) (c : Int) (pp : List (List Int)) (k j i : Nat) : bfC ts G c pp k j (i + 1) = bif gi (devRow ts G k) i != -1 then bfC ts G c pp k j i ++ [pvP pp k i + chg c i j] else bfC ts G c pp k j i := rfl
abbrev bfCaps (ts : List Tf) (n g c : Int) (G m k j : Nat) (P : AV) : List AV := [.pt [tsl ts, iv n, iv g, iv c, .sl 1 m (devC ts G m)] 0, .pt [iv ((k + 1 : Nat) : Int)] 0, .pt [P] 0, .pt [iv j] 0]
def ysX (L : List Int) (m t : Nat) : Option (List AV) := bif decide (t ≤ m) then ysC L t else none
theorem ysX_le {L : List Int} {m t : Nat} {avs : List AV} (h : ysX L m t = some avs) : t ≤ m ∧ ysC L t = some avs := by
  unfold ysX at h
  by_cases e : t ≤ m
  · rw [decide_eq_true e] at h; exact ⟨e, h⟩
  · rw [decide_eq_false e] at h; cases h
theorem it_before (ts : List Tf) (n g c : Int) (G m k j : Nat) (pp : List (List Int)) (hc : 0 ≤ c ∧ c ≤ 1000000) (hT : ts.length ≤ 6) (hk : k + 1 < m) (hm : m ≤ 20) (hpl : k < pp.length) (hpl2 : pp.length ≤ 1000) (hrow : (gS pp k).length = ts.length)
    (hpb : ∀ i : Nat, i < ts.length → -1000000000 ≤ pvP pp k i ∧ pvP pp k i ≤ 1000000000) :
    IterC Tryz.prog 163 (bfCaps ts n g c G m k j (lsA pp)) (ysC (bfC ts G c pp k j ts.length)) (bfC ts G c pp k j ts.length).length := by
  have hdC := devC_len ts G m
  have hpC := lsC_len pp
  have hrl := devRow_len ts G k
  refine iter_intro evOk [37] Tryz.func163 rfl Tryz.call163 (fun y hy han => ?_)
  have hk1 : (((k + 1 : Nat) : Int) - 1) = (k : Nat) := by omega
  have b1 : (devC ts G m)[((k : Nat) : Int).toNat * 1]? = some (isl (devRow ts G k)) := by rw [Int.toNat_natCast, Nat.mul_one]; exact devC_at (by omega)
  have b1' : (devC ts G m)[((k : Nat) : Int).toNat]? = some (isl (devRow ts G k)) := devC_at (by omega)
  have p1 : (lsC pp)[((k : Nat) : Int).toNat * 1]? = some (isl (gS pp k)) := by rw [Int.toNat_natCast, Nat.mul_one]; exact lsC_at hpl
  have p1' : (lsC pp)[((k : Nat) : Int).toNat]? = some (isl (gS pp k)) := lsC_at hpl
  repeat' first
   | refine v_seq ?_ | refine v_block ?_ | refine v_ret ?_ | refine v_skip ?_ | (refine v_exit ?_; repeat' first | refine xB_eq ?_ | refine xB_ne rfl ?_)
   | ((first | refine v_region (evOk.withY y) (fun K hK => ?_) | refine v_draw' (evOk.withY y) rfl (fun K hK => ?_) | refine v_drawF (evOk.withY y) rfl rfl (fun K hK => ?_)); simp only [go_sem,simprocAttr,hk1,b1,b1',hdC])
   | (simp (disch := first | omega | rfl | (simp only [lnn]; omega)) only [spl])
   | (refine hK _ ?_; clear hK K)
   | (refine gdB_intro (fun h => ?_) (fun h => ?_) <;> simp only [go_sem,simprocAttr,h,hk1,b1,b1',hdC] <;> (have h' := h; try simp only [bl] at h'))
   | (refine v_cond rfl (fun h => ?_) (fun h => ?_) <;> first | (exact Bool.noConfusion h) | (have h' := h; try simp only [bl] at h'))
   | (refine r_ret ?_; simp only [resL, resA, Tryz.f163, lk_cons', lk_nil', Nat.reduceBEq]; first | exact ⟨rfl, Sb.nil _, rfl⟩ | refine ⟨rfl, sbt ?_, rfl⟩ | refine ⟨rfl, Sb.of_eq ?_, rfl⟩)
   | (refine And.intro (by first | exact True.intro | omega | rfl | exact Nat.le_of_ble_eq_true rfl | (simp only [lnn]; omega) | exact List.forall_mem_nil _ | (refine List.forall_mem_cons.2 ⟨⟨_, rfl⟩, ?_⟩; repeat' first | exact List.forall_mem_nil _ | refine List.forall_mem_cons.2 ⟨⟨_, rfl⟩, ?_⟩)) ?_)
   | (simp only [go_sem,simprocAttr,hk1,b1,b1',hdC])
   | fail
  all_goals try (exfalso; omega)
  refine v_loop (T := Nat) (fun i => ⟨[(0, .v (.func (.yield y.l) #[] #[])), (1, .pt [tsl ts, iv n, iv g, iv c, .sl 1 m (devC ts G m)] 0), (2, .pt [iv ((k + 1 : Nat) : Int)] 0), (3, .pt [lsA pp] 0), (4, .pt [iv j] 0), (13, isl (devRow ts G k)), (14, iv (devRow ts G k).length), (15, iv i)], emp, 0, (41, 0, (bfC ts G c pp k j i).length)⟩) (fun i => i ≤ ts.length) (fun i => ts.length - i) 0 (by omega) ?_ ?_
  · refine ent_eq ?_ rfl rfl rfl
    (repeat' first | exact trivial | refine ⟨?_, ?_⟩ | rfl | (refine congrArg (fun z => some (AV.v (Value.int .i64 z))) ?_; omega))
  intro i hi
  have hsu := bfC_succ ts G c pp k j i
  by_cases hi2 : i < ts.length
  · have hd : decide ((i : Int) < (devRow ts G k).length) = true := decide_eq_true (by omega)
    have hcb := chg_bound hc.1 i j
    have hpi := hpb i hi2
    have kc := c_change ts n g c G m i j
    unfold tkX at kc
    have hpg : gi (gS pp k) (i : Nat) = pvP pp k i := rfl
    cases hz : gi (devRow ts G k) i != -1
    · rw [hz, cond_false] at hsu
      repeat' first
       | refine v_seq ?_ | refine v_block ?_ | refine v_ret ?_ | refine v_skip ?_ | (refine v_exit ?_; repeat' first | refine xB_eq ?_ | refine xB_ne rfl ?_)
       | ((first | refine v_region (evOk.withY y) (fun K hK => ?_) | refine v_draw' (evOk.withY y) rfl (fun K hK => ?_) | refine v_drawF (evOk.withY y) rfl rfl (fun K hK => ?_)); simp only [go_sem,simprocAttr,hd,hz])
       | (simp (disch := first | omega | rfl | (simp only [lnn]; omega)) only [spl])
       | (refine hK _ ?_; clear hK K)
       | (refine gdB_intro (fun h => ?_) (fun h => ?_) <;> simp only [go_sem,simprocAttr,h,hd,hz] <;> (have h' := h; try simp only [bl] at h'))
       | (refine v_cond rfl (fun h => ?_) (fun h => ?_) <;> first | (exact Bool.noConfusion h) | (have h' := h; try simp only [bl] at h'))
       | (refine r_ret ?_; simp only [resL, resA, Tryz.f163, lk_cons', lk_nil', Nat.reduceBEq]; first | exact ⟨rfl, Sb.nil _, rfl⟩ | refine ⟨rfl, sbt ?_, rfl⟩ | refine ⟨rfl, Sb.of_eq ?_, rfl⟩)
       | (refine And.intro (by first | exact True.intro | omega | rfl | exact Nat.le_of_ble_eq_true rfl | (simp only [lnn]; omega) | exact List.forall_mem_nil _ | (refine List.forall_mem_cons.2 ⟨⟨_, rfl⟩, ?_⟩; repeat' first | exact List.forall_mem_nil _ | refine List.forall_mem_cons.2 ⟨⟨_, rfl⟩, ?_⟩)) ?_)
       | fail
      refine ⟨i + 1, ?_, by omega, by omega⟩
      rw [hsu]
      refine ent_eq ?_ rfl rfl rfl
      (repeat' first | exact trivial | refine ⟨?_, ?_⟩ | rfl | (refine congrArg (fun z => some (AV.v (Value.int .i64 z))) ?_; omega))
    · have hat := costsTo_at (f := fun i => pvP pp k i + chg c i j) (n := ts.length) hi2 hz
      rw [hz, cond_true] at hsu
      repeat' first
       | refine v_seq ?_ | refine v_block ?_ | refine v_ret ?_ | refine v_skip ?_ | (refine v_exit ?_; repeat' first | refine xB_eq ?_ | refine xB_ne rfl ?_)
       | ((first | refine v_region (evOk.withY y) (fun K hK => ?_) | refine v_draw' (evOk.withY y) rfl (fun K hK => ?_) | refine v_drawF (evOk.withY y) rfl rfl (fun K hK => ?_)); simp only [go_sem,simprocAttr,hd,hz,han,hk1,hpC,p1,p1',hpg,hrow])
       | (simp (disch := first | omega | rfl | (simp only [lnn]; omega)) only [spl])
       | (refine hK _ ?_; clear hK K)
       | (refine gdB_intro (fun h => ?_) (fun h => ?_) <;> simp only [go_sem,simprocAttr,h,hd,hz,han,hk1,hpC,p1,p1',hpg,hrow] <;> (have h' := h; try simp only [bl] at h'))
       | (refine v_cond rfl (fun h => ?_) (fun h => ?_) <;> first | (exact Bool.noConfusion h) | (have h' := h; try simp only [bl] at h'))
       | (refine r_ret ?_; simp only [resL, resA, Tryz.f163, lk_cons', lk_nil', Nat.reduceBEq]; first | exact ⟨rfl, Sb.nil _, rfl⟩ | refine ⟨rfl, sbt ?_, rfl⟩ | refine ⟨rfl, Sb.of_eq ?_, rfl⟩)
       | (refine And.intro (by first | exact True.intro | omega | rfl | exact Nat.le_of_ble_eq_true rfl | (simp only [lnn]; omega) | exact List.forall_mem_nil _ | (refine List.forall_mem_cons.2 ⟨⟨_, rfl⟩, ?_⟩; repeat' first | exact List.forall_mem_nil _ | refine List.forall_mem_cons.2 ⟨⟨_, rfl⟩, ?_⟩)) ?_)
       | ((first | refine call_pure' (kc) rfl ?_); simp only [go_sem,simprocAttr,hd,hz,han,hk1,hpC,p1,p1',hpg,hrow])
       | (refine And.intro (by rw [hy]; unfold ysC bfC; rw [hat]; rfl) ?_)
       | (simp only [go_sem,simprocAttr,hk1,p1,p1',hpC,hpg,hrow])
       | fail
      all_goals try (exfalso; omega)
      refine ⟨i + 1, ?_, by omega, by omega⟩
      rw [hsu, List.length_append, List.length_singleton]
      refine ent_eq ?_ rfl rfl rfl
      (repeat' first | exact trivial | refine ⟨?_, ?_⟩ | rfl | (refine congrArg (fun z => some (AV.v (Value.int .i64 z))) ?_; omega))
  · obtain rfl : i = ts.length := by omega
    have hd : decide ((ts.length : Int) < (devRow ts G k).length) = false := decide_eq_false (by omega)
    repeat' first
     | refine v_seq ?_ | refine v_block ?_ | refine v_ret ?_ | refine v_skip ?_ | (refine v_exit ?_; repeat' first | refine xB_eq ?_ | refine xB_ne rfl ?_)
     | ((first | refine v_region (evOk.withY y) (fun K hK => ?_) | refine v_draw' (evOk.withY y) rfl (fun K hK => ?_) | refine v_drawF (evOk.withY y) rfl rfl (fun K hK => ?_)); simp only [go_sem,simprocAttr,hd])
     | (simp (disch := first | omega | rfl | (simp only [lnn]; omega)) only [spl])
     | (refine hK _ ?_; clear hK K)
     | (refine gdB_intro (fun h => ?_) (fun h => ?_) <;> simp only [go_sem,simprocAttr,h,hd] <;> (have h' := h; try simp only [bl] at h'))
     | (refine v_cond rfl (fun h => ?_) (fun h => ?_) <;> first | (exact Bool.noConfusion h) | (have h' := h; try simp only [bl] at h'))
     | (refine r_ret ?_; simp only [resL, resA, Tryz.f163, lk_cons', lk_nil', Nat.reduceBEq]; first | exact ⟨rfl, Sb.nil _, rfl⟩ | refine ⟨rfl, sbt ?_, rfl⟩ | refine ⟨rfl, Sb.of_eq ?_, rfl⟩)
     | (refine And.intro (by first | exact True.intro | omega | rfl | exact Nat.le_of_ble_eq_true rfl | (simp only [lnn]; omega) | exact List.forall_mem_nil _ | (refine List.forall_mem_cons.2 ⟨⟨_, rfl⟩, ?_⟩; repeat' first | exact List.forall_mem_nil _ | refine List.forall_mem_cons.2 ⟨⟨_, rfl⟩, ?_⟩)) ?_)
     | fail
    exact True.intro
theorem it_beforeX (ts : List Tf) (n g c : Int) (G m k j q : Nat) (pp : List (List Int)) (hq : q < (bfC ts G c pp k j ts.length).length) (hc : 0 ≤ c ∧ c ≤ 1000000) (hT : ts.length ≤ 6) (hk : k + 1 < m) (hm : m ≤ 20) (hpl : k < pp.length) (hpl2 : pp.length ≤ 1000) (hrow : (gS pp k).length = ts.length)
    (hpb : ∀ i : Nat, i < ts.length → -1000000000 ≤ pvP pp k i ∧ pvP pp k i ≤ 1000000000) :
    IterA Tryz.prog 163 (bfCaps ts n g c G m k j (lsA pp)) (ysX (bfC ts G c pp k j ts.length) q) (fun t => t != q) (q + 1) := by
  have hdC := devC_len ts G m
  have hpC := lsC_len pp
  have hrl := devRow_len ts G k
  refine iter_intro evOk [37] Tryz.func163 rfl Tryz.call163 (fun y hy han => ?_)
  have hk1 : (((k + 1 : Nat) : Int) - 1) = (k : Nat) := by omega
  have b1 : (devC ts G m)[((k : Nat) : Int).toNat * 1]? = some (isl (devRow ts G k)) := by rw [Int.toNat_natCast, Nat.mul_one]; exact devC_at (by omega)
  have b1' : (devC ts G m)[((k : Nat) : Int).toNat]? = some (isl (devRow ts G k)) := devC_at (by omega)
  have p1 : (lsC pp)[((k : Nat) : Int).toNat * 1]? = some (isl (gS pp k)) := by rw [Int.toNat_natCast, Nat.mul_one]; exact lsC_at hpl
  have p1' : (lsC pp)[((k : Nat) : Int).toNat]? = some (isl (gS pp k)) := lsC_at hpl
  repeat' first
   | refine v_seq ?_ | refine v_block ?_ | refine v_ret ?_ | refine v_skip ?_ | (refine v_exit ?_; repeat' first | refine xB_eq ?_ | refine xB_ne rfl ?_)
   | ((first | refine v_region (evOk.withY y) (fun K hK => ?_) | refine v_draw' (evOk.withY y) rfl (fun K hK => ?_) | refine v_drawF (evOk.withY y) rfl rfl (fun K hK => ?_)); simp only [go_sem,simprocAttr,hk1,b1,b1',hdC])
   | (simp (disch := first | omega | rfl | (simp only [lnn]; omega)) only [spl])
   | (refine hK _ ?_; clear hK K)
   | (refine gdB_intro (fun h => ?_) (fun h => ?_) <;> simp only [go_sem,simprocAttr,h,hk1,b1,b1',hdC] <;> (have h' := h; try simp only [bl] at h'))
   | (refine v_cond rfl (fun h => ?_) (fun h => ?_) <;> first | (exact Bool.noConfusion h) | (have h' := h; try simp only [bl] at h'))
   | (refine r_ret ?_; simp only [resL, resA, Tryz.f163, lk_cons', lk_nil', Nat.reduceBEq]; first | exact ⟨rfl, Sb.nil _, rfl⟩ | refine ⟨rfl, sbt ?_, rfl⟩ | refine ⟨rfl, Sb.of_eq ?_, rfl⟩)
   | (refine And.intro (by first | exact True.intro | omega | rfl | exact Nat.le_of_ble_eq_true rfl | (simp only [lnn]; omega) | exact List.forall_mem_nil _ | (refine List.forall_mem_cons.2 ⟨⟨_, rfl⟩, ?_⟩; repeat' first | exact List.forall_mem_nil _ | refine List.forall_mem_cons.2 ⟨⟨_, rfl⟩, ?_⟩)) ?_)
   | (simp only [go_sem,simprocAttr,hk1,b1,b1',hdC])
   | fail
  all_goals try (exfalso; omega)
  refine v_loop (T := Nat) (fun i => ⟨[(0, .v (.func (.yield y.l) #[] #[])), (1, .pt [tsl ts, iv n, iv g, iv c, .sl 1 m (devC ts G m)] 0), (2, .pt [iv ((k + 1 : Nat) : Int)] 0), (3, .pt [lsA pp] 0), (4, .pt [iv j] 0), (13, isl (devRow ts G k)), (14, iv (devRow ts G k).length), (15, iv i)], emp, 0, (41, 0, (bfC ts G c pp k j i).length)⟩) (fun i => i ≤ ts.length ∧ (bfC ts G c pp k j i).length ≤ q) (fun i => ts.length - i) 0 ⟨by omega, Nat.zero_le _⟩ ?_ ?_
  · refine ent_eq ?_ rfl rfl rfl
    (repeat' first | exact trivial | refine ⟨?_, ?_⟩ | rfl | (refine congrArg (fun z => some (AV.v (Value.int .i64 z))) ?_; omega))
  rintro i ⟨hi, hiq⟩
  have hsu := bfC_succ ts G c pp k j i
  by_cases hi2 : i < ts.length
  · have hd : decide ((i : Int) < (devRow ts G k).length) = true := decide_eq_true (by omega)
    have hcb := chg_bound hc.1 i j
    have hpi := hpb i hi2
    have kc := c_change ts n g c G m i j
    unfold tkX at kc
    have hpg : gi (gS pp k) (i : Nat) = pvP pp k i := rfl
    cases hz : gi (devRow ts G k) i != -1
    · rw [hz, cond_false] at hsu
      repeat' first
       | refine v_seq ?_ | refine v_block ?_ | refine v_ret ?_ | refine v_skip ?_ | (refine v_exit ?_; repeat' first | refine xB_eq ?_ | refine xB_ne rfl ?_)
       | ((first | refine v_region (evOk.withY y) (fun K hK => ?_) | refine v_draw' (evOk.withY y) rfl (fun K hK => ?_) | refine v_drawF (evOk.withY y) rfl rfl (fun K hK => ?_)); simp only [go_sem,simprocAttr,hd,hz])
       | (simp (disch := first | omega | rfl | (simp only [lnn]; omega)) only [spl])
       | (refine hK _ ?_; clear hK K)
       | (refine gdB_intro (fun h => ?_) (fun h => ?_) <;> simp only [go_sem,simprocAttr,h,hd,hz] <;> (have h' := h; try simp only [bl] at h'))
       | (refine v_cond rfl (fun h => ?_) (fun h => ?_) <;> first | (exact Bool.noConfusion h) | (have h' := h; try simp only [bl] at h'))
       | (refine r_ret ?_; simp only [resL, resA, Tryz.f163, lk_cons', lk_nil', Nat.reduceBEq]; first | exact ⟨rfl, Sb.nil _, rfl⟩ | refine ⟨rfl, sbt ?_, rfl⟩ | refine ⟨rfl, Sb.of_eq ?_, rfl⟩)
       | (refine And.intro (by first | exact True.intro | omega | rfl | exact Nat.le_of_ble_eq_true rfl | (simp only [lnn]; omega) | exact List.forall_mem_nil _ | (refine List.forall_mem_cons.2 ⟨⟨_, rfl⟩, ?_⟩; repeat' first | exact List.forall_mem_nil _ | refine List.forall_mem_cons.2 ⟨⟨_, rfl⟩, ?_⟩)) ?_)
       | fail
      refine ⟨i + 1, ?_, ⟨by omega, by rw [hsu]; exact hiq⟩, by omega⟩
      rw [hsu]
      refine ent_eq ?_ rfl rfl rfl
      (repeat' first | exact trivial | refine ⟨?_, ?_⟩ | rfl | (refine congrArg (fun z => some (AV.v (Value.int .i64 z))) ?_; omega))
    · have hat := costsTo_at (f := fun i => pvP pp k i + chg c i j) (n := ts.length) hi2 hz
      rw [hz, cond_true] at hsu
      by_cases hqe : (bfC ts G c pp k j i).length = q
      · have hne : ((bfC ts G c pp k j i).length != q) = false := by simpa using hqe
        repeat' first
         | refine v_seq ?_ | refine v_block ?_ | refine v_ret ?_ | refine v_skip ?_ | (refine v_exit ?_; repeat' first | refine xB_eq ?_ | refine xB_ne rfl ?_)
         | ((first | refine v_region (evOk.withY y) (fun K hK => ?_) | refine v_draw' (evOk.withY y) rfl (fun K hK => ?_) | refine v_drawF (evOk.withY y) rfl rfl (fun K hK => ?_)); simp only [go_sem,simprocAttr,hd,hz,han,hk1,hpC,p1,p1',hpg,hrow,hne])
         | (simp (disch := first | omega | rfl | (simp only [lnn]; omega)) only [spl])
         | (refine hK _ ?_; clear hK K)
         | (refine gdB_intro (fun h => ?_) (fun h => ?_) <;> simp only [go_sem,simprocAttr,h,hd,hz,han,hk1,hpC,p1,p1',hpg,hrow,hne] <;> (have h' := h; try simp only [bl] at h'))
         | (refine v_cond rfl (fun h => ?_) (fun h => ?_) <;> first | (exact Bool.noConfusion h) | (have h' := h; try simp only [bl] at h'))
         | (refine r_ret ?_; simp only [resL, resA, Tryz.f163, lk_cons', lk_nil', Nat.reduceBEq]; first | exact ⟨rfl, Sb.nil _, rfl⟩ | refine ⟨rfl, sbt ?_, rfl⟩ | refine ⟨rfl, Sb.of_eq ?_, rfl⟩)
         | (refine And.intro (by first | exact True.intro | omega | rfl | exact Nat.le_of_ble_eq_true rfl | (simp only [lnn]; omega) | exact List.forall_mem_nil _ | (refine List.forall_mem_cons.2 ⟨⟨_, rfl⟩, ?_⟩; repeat' first | exact List.forall_mem_nil _ | refine List.forall_mem_cons.2 ⟨⟨_, rfl⟩, ?_⟩)) ?_)
         | ((first | refine call_pure' (kc) rfl ?_); simp only [go_sem,simprocAttr,hd,hz,han,hk1,hpC,p1,p1',hpg,hrow,hne])
         | (refine And.intro (by rw [hy]; unfold ysX ysC; rw [decide_eq_true hiq, cond_true]; unfold bfC; rw [hat]; rfl) ?_)
         | (simp only [go_sem,simprocAttr,hk1,p1,p1',hpC,hpg,hrow,hne])
         | fail
        all_goals try (exfalso; omega)
        all_goals first | exact True.intro | (show (bfC ts G c pp k j i).length + 1 = q + 1; rw [hqe]) | (rw [hqe])
      · have hne : ((bfC ts G c pp k j i).length != q) = true := by simpa using hqe
        repeat' first
         | refine v_seq ?_ | refine v_block ?_ | refine v_ret ?_ | refine v_skip ?_ | (refine v_exit ?_; repeat' first | refine xB_eq ?_ | refine xB_ne rfl ?_)
         | ((first | refine v_region (evOk.withY y) (fun K hK => ?_) | refine v_draw' (evOk.withY y) rfl (fun K hK => ?_) | refine v_drawF (evOk.withY y) rfl rfl (fun K hK => ?_)); simp only [go_sem,simprocAttr,hd,hz,han,hk1,hpC,p1,p1',hpg,hrow,hne])
         | (simp (disch := first | omega | rfl | (simp only [lnn]; omega)) only [spl])
         | (refine hK _ ?_; clear hK K)
         | (refine gdB_intro (fun h => ?_) (fun h => ?_) <;> simp only [go_sem,simprocAttr,h,hd,hz,han,hk1,hpC,p1,p1',hpg,hrow,hne] <;> (have h' := h; try simp only [bl] at h'))
         | (refine v_cond rfl (fun h => ?_) (fun h => ?_) <;> first | (exact Bool.noConfusion h) | (have h' := h; try simp only [bl] at h'))
         | (refine r_ret ?_; simp only [resL, resA, Tryz.f163, lk_cons', lk_nil', Nat.reduceBEq]; first | exact ⟨rfl, Sb.nil _, rfl⟩ | refine ⟨rfl, sbt ?_, rfl⟩ | refine ⟨rfl, Sb.of_eq ?_, rfl⟩)
         | (refine And.intro (by first | exact True.intro | omega | rfl | exact Nat.le_of_ble_eq_true rfl | (simp only [lnn]; omega) | exact List.forall_mem_nil _ | (refine List.forall_mem_cons.2 ⟨⟨_, rfl⟩, ?_⟩; repeat' first | exact List.forall_mem_nil _ | refine List.forall_mem_cons.2 ⟨⟨_, rfl⟩, ?_⟩)) ?_)
         | ((first | refine call_pure' (kc) rfl ?_); simp only [go_sem,simprocAttr,hd,hz,han,hk1,hpC,p1,p1',hpg,hrow,hne])
         | (refine And.intro (by rw [hy]; unfold ysX ysC; rw [decide_eq_true hiq, cond_true]; unfold bfC; rw [hat]; rfl) ?_)
         | (simp only [go_sem,simprocAttr,hk1,p1,p1',hpC,hpg,hrow,hne])
         | fail
        all_goals try (exfalso; omega)
        refine ⟨i + 1, ?_, ⟨by omega, by rw [hsu, List.length_append, List.length_singleton]; omega⟩, by omega⟩
        rw [hsu, List.length_append, List.length_singleton]
        refine ent_eq ?_ rfl rfl rfl
        (repeat' first | exact trivial | refine ⟨?_, ?_⟩ | rfl | (refine congrArg (fun z => some (AV.v (Value.int .i64 z))) ?_; omega))
  · obtain rfl : i = ts.length := by omega
    exact absurd hq (by omega)
end Go.Proofs.YtabmhfmglhjmjaaGreatDoor
set_option maxRecDepth 100000
set_option maxHeartbeats 4000000
set_option linter.unusedSimpArgs false
set_option linter.unusedVariables false
set_option linter.unusedSectionVars false
namespace Go.Proofs.YtabmhfmglhjmjaaGreatDoor
open Go.Ab Go.RowKit
variable [Dr]
theorem costsTo_any (row : List Int) (f : Nat → Int) (p : Int → Bool) : ∀ n, (costsTo row f n).any p = (List.range n).any fun i => gi row i != -1 && p (f i)
  | 0 => rfl
  | n + 1 => by
    rw [costsTo, List.range_succ, List.any_append, ← costsTo_any row f p n]
    cases h : gi row n != -1
    · simp [h]
    · simp [h]
theorem any_first {p : Int → Bool} {xs : List Int} (h : xs.any p = true) : ∃ q, q < xs.length ∧ p (gi xs (q : Nat)) = true ∧ ∀ t, t < q → p (gi xs (t : Nat)) = false := by
  rcases idxP_inv (p := fun i => p (gi xs (i : Nat))) (n := xs.length) with ⟨_, h2⟩ | ⟨i, _, h2, h3, h4⟩
  · rw [List.any_eq_true] at h
    obtain ⟨x, hx, hp⟩ := h
    obtain ⟨j, hj, rfl⟩ := List.getElem_of_mem hx
    have := h2 j hj
    simp only [gi, Int.toNat_natCast, List.getD_eq_getElem?_getD, List.getElem?_eq_getElem hj, Option.getD_some] at this
    rw [hp] at this; cases this
  · exact ⟨i, h2, h3, h4⟩
theorem any_none {p : Int → Bool} {xs : List Int} (h : xs.any p = false) {t : Nat} {v : Int} (ht : xs[t]? = some v) : p v = false := by
  rw [List.any_eq_false] at h
  simpa using h v (List.mem_of_getElem? ht)
def pcR (pp : List (List Int)) (T k : Nat) : Int := firstE [unlessE (((gS pp k).length : Int) == T) 10, unlessE (!((gS pp k).any fun n => !within n (-1000000000) 1000000000)) 2]
def prE1 (pp : List (List Int)) (K T : Nat) : Int := bif (pp.length : Int) != K then 10 else (fb7 (pcR pp T) K).2
def badP (ts : List Tf) (G : Nat) (c : Int) (pp : List (List Int)) : Nat → Nat → Bool
  | 0, j => decide (dvn ts G 0 j < pvP pp 0 j)
  | k + 1, j => (bfC ts G c pp k j ts.length).any fun v => decide (v + dvn ts G (k + 1) j < pvP pp (k + 1) j)
def badQ (ts : List Tf) (G : Nat) (c : Int) (pp : List (List Int)) (k j : Nat) : Bool := dvn ts G k j != -1 && badP ts G c pp k j
def badR (ts : List Tf) (G : Nat) (c : Int) (pp : List (List Int)) (k : Nat) : Bool := (List.range ts.length).any (badQ ts G c pp k)
def prBad (ts : List Tf) (G : Nat) (c : Int) (pp : List (List Int)) (K : Nat) : Bool := (List.range K).any (badR ts G c pp)
theorem any_at {p : Nat → Bool} {n i : Nat} (hi : i < n) (h : p i = true) : (List.range n).any p = true := List.any_eq_true.2 ⟨i, List.mem_range.2 hi, h⟩
theorem any_no {p : Nat → Bool} {n : Nat} : (List.range n).any p = false ↔ ∀ i, i < n → p i = false := by simp
def bdT (ts : List Tf) (G : Nat) (pp : List (List Int)) (K : Nat) : Nat → Int × Bool
  | 0 => (0, false)
  | j + 1 => bif dvn ts G (K - 1) j != -1 then (bif !(bdT ts G pp K j).2 || decide (pvP pp (K - 1) j < (bdT ts G pp K j).1) then (pvP pp (K - 1) j, true) else bdT ts G pp K j) else bdT ts G pp K j
def prErr (ts : List Tf) (G : Nat) (c : Int) (pp : List (List Int)) (K : Nat) : Int := bif prE1 pp K ts.length != 0 then prE1 pp K ts.length else bif prBad ts G c pp K then 19 else 0
theorem prE1_zero {pp : List (List Int)} {K T : Nat} (h : prE1 pp K T = 0) : pp.length = K ∧ ∀ k, k < K → (gS pp k).length = T ∧ ∀ i : Nat, i < T → -1000000000 ≤ pvP pp k i ∧ pvP pp k i ≤ 1000000000 := by
  unfold prE1 at h
  cases hl : (pp.length : Int) != K <;> rw [hl] at h
  · rw [cond_false] at h
    refine ⟨by have : (pp.length : Int) = K := by simpa using hl
               omega, fun k hk => ?_⟩
    have hz := firstE_zero (fb7_none _ h k hk)
    have e1 := unlessE_zero (by decide) (hz (unlessE (((gS pp k).length : Int) == T) 10) (by simp))
    have e2 := unlessE_zero (by decide) (hz (unlessE (!((gS pp k).any fun n => !within n (-1000000000) 1000000000)) 2) (by simp))
    have hlen : (gS pp k).length = T := by have : ((gS pp k).length : Int) = T := by simpa using e1
                                           omega
    refine ⟨hlen, fun i hi => ?_⟩
    have e3 : ((gS pp k).any fun n => !within n (-1000000000) 1000000000) = false := by simpa using e2
    have hi' : i < (gS pp k).length := by omega
    have := any_none e3 (List.getElem?_eq_getElem hi')
    have hg : pvP pp k i = (gS pp k)[i] := by simp [pvP, gi, hi']
    rw [hg]
    exact within_iff.1 (by simpa using this)
  · cases h
theorem bdT_le {ts : List Tf} {G : Nat} {pp : List (List Int)} {K : Nat} : ∀ {n j : Nat}, j < n → dvn ts G (K - 1) j ≠ -1 → (bdT ts G pp K n).2 = true ∧ (bdT ts G pp K n).1 ≤ pvP pp (K - 1) j
  | 0, j, h, _ => absurd h (by omega)
  | n + 1, j, h, hd => by
    rw [bdT]
    by_cases e : j = n
    · subst e
      rw [show (dvn ts G (K - 1) j != -1) = true by simpa using hd, cond_true]
      cases hb : (!(bdT ts G pp K j).2 || decide (pvP pp (K - 1) j < (bdT ts G pp K j).1))
      · rw [cond_false]
        rw [Bool.or_eq_false_iff] at hb
        exact ⟨by simpa using hb.1, by have := of_decide_eq_false hb.2; omega⟩
      · rw [cond_true]; exact ⟨rfl, Int.le_refl _⟩
    · obtain ⟨h1, h2⟩ := bdT_le (pp := pp) (n := n) (by omega) hd
      cases dvn ts G (K - 1) n != -1
      · exact ⟨h1, h2⟩
      · rw [cond_true]
        cases hb : (!(bdT ts G pp K n).2 || decide (pvP pp (K - 1) n < (bdT ts G pp K n).1))
        · exact ⟨h1, h2⟩
        · rw [cond_true]
          rw [h1] at hb
          have := of_decide_eq_true (by simpa using hb : decide (pvP pp (K - 1) n < (bdT ts G pp K n).1) = true)
          exact ⟨rfl, by dsimp only; omega⟩
theorem bdT_b {ts : List Tf} {G : Nat} {pp : List (List Int)} {K : Nat} (h : ∀ i : Nat, i < ts.length → -1000000000 ≤ pvP pp (K - 1) i ∧ pvP pp (K - 1) i ≤ 1000000000) : ∀ {n : Nat}, n ≤ ts.length → -1000000000 ≤ (bdT ts G pp K n).1 ∧ (bdT ts G pp K n).1 ≤ 1000000000
  | 0, _ => by show (-1000000000 : Int) ≤ 0 ∧ (0 : Int) ≤ 1000000000; omega
  | n + 1, hn => by
    have ih := bdT_b (G := G) h (n := n) (by omega)
    rw [bdT]
    cases dvn ts G (K - 1) n != -1
    · exact ih
    · rw [cond_true]
      cases (!(bdT ts G pp K n).2 || decide (pvP pp (K - 1) n < (bdT ts G pp K n).1))
      · exact ih
      · exact h n (by omega)
theorem c_CP1 (n : Int) : Pure Tryz.prog 133 [iv n] (.v (.bool (!within n (-1000000000) 1000000000))) := by
  refine p_intro evOk [] Tryz.func133 rfl Tryz.call133 ?_
  repeat' first
   | refine v_seq ?_ | refine v_block ?_ | refine v_ret ?_ | refine v_skip ?_ | (refine v_exit ?_; repeat' first | refine xB_eq ?_ | refine xB_ne rfl ?_)
   | ((first | refine rgA fun K hK => ?_ | refine rgB rfl fun K hK => ?_ | refine rgC rfl fun K hK => ?_); simp only [go_sem,simprocAttr])
   | (simp (disch := first | omega | rfl | (simp only [lnn]; omega)) only [spl])
   | (refine hK _ ?_; clear hK K)
   | (refine gdB_intro (fun h => ?_) (fun h => ?_) <;> simp only [go_sem,simprocAttr,h] <;> (have h' := h; try simp only [bl] at h'))
   | (refine v_cond rfl (fun h => ?_) (fun h => ?_) <;> first | (exact Bool.noConfusion h) | (have h' := h; try simp only [bl] at h'))
   | (refine r_ret ?_; simp only [resL, resA, Tryz.f133, lk_cons', lk_nil', Nat.reduceBEq]; first | exact ⟨rfl, Sb.nil _, rfl⟩ | refine ⟨rfl, sbt ?_, rfl⟩ | refine ⟨rfl, Sb.of_eq ?_, rfl⟩)
   | (refine And.intro (by first | exact True.intro | omega | rfl | exact Nat.le_of_ble_eq_true rfl | (simp only [lnn]; omega) | exact List.forall_mem_nil _ | (refine List.forall_mem_cons.2 ⟨⟨_, rfl⟩, ?_⟩; repeat' first | exact List.forall_mem_nil _ | refine List.forall_mem_cons.2 ⟨⟨_, rfl⟩, ?_⟩)) ?_)
   | ((first | refine call_pure' (c_isSized n 1000000000 (by omega)) rfl ?_); simp only [go_sem,simprocAttr])
   | fail
theorem c_before (ts : List Tf) (n g c : Int) (G m k j : Nat) (pp : List (List Int)) : Pure Tryz.prog 135 [tkX ts n g c G m, iv ((k + 1 : Nat) : Int), iv j, lsA pp] (.fn (.func 163) [] (bfCaps ts n g c G m k j (lsA pp))) := by
  unfold tkX
  refine p_intro evOk [] Tryz.func135 rfl Tryz.call135 ?_
  repeat' first
   | refine v_seq ?_ | refine v_block ?_ | refine v_ret ?_ | refine v_skip ?_ | (refine v_exit ?_; repeat' first | refine xB_eq ?_ | refine xB_ne rfl ?_)
   | ((first | refine rgA fun K hK => ?_ | refine rgB rfl fun K hK => ?_ | refine rgC rfl fun K hK => ?_); simp only [go_sem,simprocAttr])
   | (simp (disch := first | omega | rfl | (simp only [lnn]; omega)) only [spl])
   | (refine hK _ ?_; clear hK K)
   | (refine gdB_intro (fun h => ?_) (fun h => ?_) <;> simp only [go_sem,simprocAttr,h] <;> (have h' := h; try simp only [bl] at h'))
   | (refine v_cond rfl (fun h => ?_) (fun h => ?_) <;> first | (exact Bool.noConfusion h) | (have h' := h; try simp only [bl] at h'))
   | (refine r_ret ?_; simp only [resL, resA, Tryz.f135, lk_cons', lk_nil', Nat.reduceBEq]; first | exact ⟨rfl, Sb.nil _, rfl⟩ | refine ⟨rfl, sbt ?_, rfl⟩ | refine ⟨rfl, Sb.of_eq ?_, rfl⟩)
   | (refine And.intro (by first | exact True.intro | omega | rfl | exact Nat.le_of_ble_eq_true rfl | (simp only [lnn]; omega) | exact List.forall_mem_nil _ | (refine List.forall_mem_cons.2 ⟨⟨_, rfl⟩, ?_⟩; repeat' first | exact List.forall_mem_nil _ | refine List.forall_mem_cons.2 ⟨⟨_, rfl⟩, ?_⟩)) ?_)
   | fail
theorem c_beforeV (ts : List Tf) (n g c : Int) (G m k j : Nat) (a : Option Addr) (q r : Nat) : Pure Tryz.prog 135 [tkX ts n g c G m, iv ((k + 1 : Nat) : Int), iv j, .v (.slice a q r)] (.fn (.func 163) [] (bfCaps ts n g c G m k j (.v (.slice a q r)))) := by
  unfold tkX
  refine p_intro evOk [] Tryz.func135 rfl Tryz.call135 ?_
  repeat' first
   | refine v_seq ?_ | refine v_block ?_ | refine v_ret ?_ | refine v_skip ?_ | (refine v_exit ?_; repeat' first | refine xB_eq ?_ | refine xB_ne rfl ?_)
   | ((first | refine rgA fun K hK => ?_ | refine rgB rfl fun K hK => ?_ | refine rgC rfl fun K hK => ?_); simp only [go_sem,simprocAttr])
   | (simp (disch := first | omega | rfl | (simp only [lnn]; omega)) only [spl])
   | (refine hK _ ?_; clear hK K)
   | (refine gdB_intro (fun h => ?_) (fun h => ?_) <;> simp only [go_sem,simprocAttr,h] <;> (have h' := h; try simp only [bl] at h'))
   | (refine v_cond rfl (fun h => ?_) (fun h => ?_) <;> first | (exact Bool.noConfusion h) | (have h' := h; try simp only [bl] at h'))
   | (refine r_ret ?_; simp only [resL, resA, Tryz.f135, lk_cons', lk_nil', Nat.reduceBEq]; first | exact ⟨rfl, Sb.nil _, rfl⟩ | refine ⟨rfl, sbt ?_, rfl⟩ | refine ⟨rfl, Sb.of_eq ?_, rfl⟩)
   | (refine And.intro (by first | exact True.intro | omega | rfl | exact Nat.le_of_ble_eq_true rfl | (simp only [lnn]; omega) | exact List.forall_mem_nil _ | (refine List.forall_mem_cons.2 ⟨⟨_, rfl⟩, ?_⟩; repeat' first | exact List.forall_mem_nil _ | refine List.forall_mem_cons.2 ⟨⟨_, rfl⟩, ?_⟩)) ?_)
   | fail
end Go.Proofs.YtabmhfmglhjmjaaGreatDoor

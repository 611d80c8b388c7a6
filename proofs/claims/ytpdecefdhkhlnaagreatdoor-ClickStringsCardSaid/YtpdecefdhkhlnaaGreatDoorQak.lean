/- Parts of the proof, put together by a program. -/
import Derived.Lib.LaidTab
import Derived.KernelRfl
import Derived.Test.YtpdecefdhkhlnaaGreatDoorQad
import Derived.Test.YtpdecefdhkhlnaaGreatDoorQaj
set_option maxRecDepth 100000
set_option maxHeartbeats 4000000
set_option linter.unusedSimpArgs false
set_option linter.unusedVariables false
set_option linter.unusedSectionVars false
namespace Go.Proofs.YtpdecefdhkhlnaaGreatDoor
open Go.Ab Go.RowKit Go.Shelf Go.Proofs
theorem bldX : Builder.Extra Tryz.prog Tryz.layJoin_ren where
  sizeBuilder := by kernel_rfl
  liesBuilder := by kernel_rfl
  t5 := Tryz.underlying5
  a5 := Tryz.isAgg5
  z5 := Tryz.sizeOf5
  v5 := Tryz.zeroValue5
  infoByte := by kernel_rfl
  cellsByte := by kernel_rfl
  sizeByte := by kernel_rfl
  neB5 := by decide
class Lo [Dr] : Prop where
  h : Dr.loose
variable [Dr] [Lo]
def join7 (xs : List ByteArray) (sep : ByteArray) : ByteArray := ⟨(Lib.join (xs.map (·.data.toList)) sep.data.toList).toArray⟩
theorem c_Join (xs : List ByteArray) (sep : ByteArray) (h1 : 1 ≤ xs.length) (hl : xs.length ≤ 1000) (hs : (Lib.join (xs.map (·.data.toList)) sep.data.toList).length ≤ 140737488355328) :
    Pure Tryz.prog 45 [ssl xs, AV.v (.string sep)] (AV.v (.string (join7 xs sep))) := by
  refine ⟨Tryz.call45, fun O w vs hr hO => ?_⟩
  obtain ⟨u, hu, h0⟩ := hr.2 0 _ rfl
  obtain ⟨u1, hu1, h2⟩ := hr.2 1 _ rfl
  obtain rfl := h2.v_inv
  have hsl := strs_len xs
  have hat : ∀ (j : Nat) (x : ByteArray), xs[j]? = some x → (strs xs)[j]? = some (.v (.string x)) := fun j x hx => by
    unfold strs
    rw [List.getElem?_map, hx]; rfl
  have fin : ∀ (b off cap : Nat), u = .slice (some ⟨b, off, none⟩) xs.length cap → xs.length ≤ cap → b < w.heap.size → (∀ (j : Nat) (x : ByteArray), xs[j]? = some x → w.cell? ⟨b, off + j, none⟩ = some (.string x)) →
      Calls Tryz.prog 45 vs w (fun e w' => ∃ u, e = .returned u ∧ Gr w w' ∧ Rp O w' (.v (.string (join7 xs sep))) u) := by
    intro b off cap hu2 hcap hb hc
    have hvs : vs = #[.slice (some ⟨b, off, none⟩) xs.length cap, .string sep] := by
      refine Array.ext_getElem? fun j => ?_
      match j with
      | 0 => rw [hu, hu2]; rfl
      | 1 => rw [hu1]; rfl
      | j + 2 =>
        have : vs.size = 2 := hr.1
        rw [Array.getElem?_eq_none (by omega), Array.getElem?_eq_none (by simp)]
    subst hvs
    exact (Any.strings_Join Tryz.layJoin bldX b off cap xs sep w hc hb (by omega) hcap hs).mono fun e w' ⟨he, hw⟩ => ⟨_, he, Gr.of_below hw (.inl Lo.h), Rp.v _⟩
  have h0' : Rp O w (.sl 1 xs.length (strs xs)) u := h0
  clear h0 hu hu1
  generalize hN : xs.length = N at h0' h1 fin
  generalize hC : strs xs = C at h0' hat
  cases h0' with
  | nla sz a => omega
  | sl sz n cs b off cap f hO hb hn hl hc hr0 =>
    refine fin b off cap rfl hn hb fun j x hx => ?_
    have h3 := hc j _ (hat j x hx)
    have h4 := hr0 j _ (hat j x hx)
    have h5 : f j = .string x := Rp.v_inv h4
    rw [h3, h5]
end Go.Proofs.YtpdecefdhkhlnaaGreatDoor
namespace Go.Proofs.YtpdecefdhkhlnaaGreatDoor
open Go.Ab Go.RowKit Go.Shelf Go.Proofs
theorem lt_heap {w : World} {b : Nat} {o : Obj} (h : w.heap[b]? = some o) : b < w.heap.size := (Array.getElem?_eq_some_iff.1 h).1
def VarIs (P : Program) (O : Nat → Prop) (w : World) (name : String) (cs : Array Value) : Prop :=
  ∃ (g : Nat) (e : TypeId) (fz : Nat × Nat), P.globalNamed name = some g ∧ ¬ O g ∧ w.heap[g]? = some (Obj.cells cs e fz)
theorem VarIs.keep {P : Program} {O O' : Nat → Prop} {w w' : World} {name : String} {cs : Array Value} (t : Tr O w O' w') (h : VarIs P O w name cs) : VarIs P O' w' name cs := by
  obtain ⟨g, e, fz, h1, h2, h3⟩ := h
  obtain ⟨k1, k2⟩ := t.keep g (lt_heap h3) h2
  exact ⟨g, e, fz, h1, k2, k1.trans h3⟩
theorem VarIs.dead {P : Program} {O : Nat → Prop} {w : World} {name : String} {cs : Array Value} {D : Nat} {x : Option (List Deferred)} (o : Obj) (hD : w.heap[D]? = some (Obj.deferred x)) (h : VarIs P O w name cs) : VarIs P O (w.putObj D o) name cs := by
  obtain ⟨g, e, fz, h1, h2, h3⟩ := h
  refine ⟨g, e, fz, h1, h2, ?_⟩
  rw [World.putObj_heap_other (fun e => by subst e; rw [hD] at h3; cases h3)]
  exact h3
theorem VarIs.var {P : Program} {O : Nat → Prop} {w : World} {name : String} {cs : Array Value} (h : VarIs P O w name cs) : w.var? P name = some cs := by
  obtain ⟨g, e, fz, h1, h2, h3⟩ := h
  unfold World.var?
  rw [h1, Option.bind_some, h3]
def invV (O : Nat → Prop) (w : World) : Prop :=
  (∃ tp p, VarIs Tryz.prog O w "strconv.ErrSyntax" #[.iface tp p]) ∧ (∃ tp p, VarIs Tryz.prog O w "strconv.ErrRange" #[.iface tp p]) ∧
  VarIs Tryz.prog O w "internal/strconv.uint64pow10" (Lib.pow10Tab.map fun z => Value.int .u64 z).toArray ∧ ∃ m, VarIs Tryz.prog O w "internal/bytealg.MaxLen" #[.int .i64 m]
abbrev drV : Dr where
  loose := True
  inv := invV
  keep := fun t h => ⟨h.1.imp fun tp h => h.imp fun p h => h.keep t, h.2.1.imp fun tp h => h.imp fun p h => h.keep t, h.2.2.1.keep t, h.2.2.2.imp fun m h => h.keep t⟩
  dead := fun o hD h => ⟨h.1.imp fun tp h => h.imp fun p h => h.dead o hD, h.2.1.imp fun tp h => h.imp fun p h => h.dead o hD, h.2.2.1.dead o hD, h.2.2.2.imp fun m h => h.dead o hD⟩
abbrev loV : @Lo drV := @Lo.mk drV True.intro
end Go.Proofs.YtpdecefdhkhlnaaGreatDoor
namespace Go.Proofs.YtpdecefdhkhlnaaGreatDoor
open Go.Ab Go.RowKit Go.Shelf Go.Proofs
attribute [local instance] drV loV
theorem one_arg {O : Nat → Prop} {w : World} {x : Value} {vs : Array Value} (hr : Rps O w [.v x] vs) : vs = #[x] := by
  obtain ⟨u, hu, h0⟩ := hr.2 0 _ rfl
  obtain rfl := h0.v_inv
  refine Array.ext_getElem? fun j => ?_
  match j with
  | 0 => simpa using hu
  | j + 1 =>
    have : vs.size = 1 := hr.1
    rw [Array.getElem?_eq_none (by omega), Array.getElem?_eq_none (by simp)]
theorem two_args {O : Nat → Prop} {w : World} {x y : Value} {vs : Array Value} (hr : Rps O w [.v x, .v y] vs) : vs = #[x, y] := by
  obtain ⟨u, hu, h0⟩ := hr.2 0 _ rfl
  obtain ⟨u1, hu1, h1⟩ := hr.2 1 _ rfl
  obtain rfl := h0.v_inv
  obtain rfl := h1.v_inv
  refine Array.ext_getElem? fun j => ?_
  match j with
  | 0 => simpa using hu
  | 1 => simpa using hu1
  | j + 2 =>
    have : vs.size = 2 := hr.1
    rw [Array.getElem?_eq_none (by omega), Array.getElem?_eq_none (by simp)]
def itoaS (n : Int) : ByteArray := ⟨(Lib.itoa n).toArray⟩
theorem c_ItoaV (n : Int) (h : I64 n) : Pure Tryz.prog 44 [iv n] (AV.v (.string (itoaS n))) := by
  refine ⟨Tryz.call44, fun O w vs hr hO => ?_⟩
  obtain rfl := one_arg hr
  refine (Any.strconv_Itoa Tryz.layItoaM n h.1 h.2 w hO.2.2.2.1.var).mono fun e w' ⟨he, k, os, hw⟩ => ?_
  subst hw
  exact ⟨_, he, Gr.of_below (Go.Lib.below_grow _ _ (Nat.le_refl _) _ _) (.inl Lo.h), Rp.v _⟩
theorem c_TrimPrefix (s p : ByteArray) : Pure Tryz.prog 66 [AV.v (.string s), AV.v (.string p)] (AV.v (.string ⟨(Lib.trimPrefix s.data.toList p.data.toList).toArray⟩)) := by
  refine ⟨Tryz.call66, fun O w vs hr hO => ?_⟩
  obtain rfl := two_args hr
  refine (Any.strings_TrimPrefix Tryz.layTrim s p w).mono fun e w' ⟨he, hw⟩ => ?_
  subst hw
  exact ⟨_, he, Gr.refl _, Rp.v _⟩
theorem c_Split (s sep : ByteArray) (hs : s.size < 4294967281) (h1 : 1 ≤ sep.size) :
    Pure Tryz.prog 51 [AV.v (.string s), AV.v (.string sep)] (ssl (Lib.splitB sep 0 (Lib.countB s sep) s)) := by
  refine ⟨Tryz.call51, fun O w vs hr hO => ?_⟩
  obtain rfl := two_args hr
  obtain ⟨m, hm⟩ := hO.2.2.2.2
  have hm1 : w.cell? ⟨Tryz.laySplit_ren.g 1, 0, none⟩ = some (.int .i64 m) := by
    have := World.var?_cell Tryz.laySplit.m1 hm.var 0
    simpa using this
  refine (Any.strings_Split { Tryz.laySplit with } Tryz.laySplit.i9 s sep m w hs hm1 h1).mono fun e w' ⟨he, hw⟩ => ?_
  subst hw
  have hlen := Lib.splitB_all sep h1 0 _ s rfl
  generalize Lib.splitB sep 0 (Lib.countB s sep) s = xs at hlen he ⊢
  rw [← hlen] at he
  refine ⟨_, he, gr_alloc _ _, Rp.mk_sl (fun h => by have := hO.1 _ h; omega) (by show w.heap.size < (w.heap.push _).size; rw [Array.size_push]; omega) (Nat.le_refl _) (by rw [strs_len]; omega) fun i c hc => ?_⟩
  rw [Nat.zero_add, cell_alloc]
  unfold strs at hc
  rw [List.getElem?_map] at hc
  cases hx : xs[i]? with
  | none => rw [hx] at hc; cases hc
  | some y =>
    rw [hx] at hc
    simp only [Option.map_some, Option.some.injEq] at hc
    subst hc
    exact ⟨.string y, by simp [hx], Rp.v _⟩
abbrev errA : AV := .ic (Tryz.layAtoi_ren.t 168) (.pt [] 0)
theorem err_tu {O : Nat → Prop} {w : World} {n : Int} {N : Nat} (hO : ¬ O N) (hN : N < w.heap.size) :
    Rp O w (.tu [iv n, errA]) (.tuple #[.int .i64 n, .iface (Tryz.layAtoi_ren.t 168) (.pointer (some ⟨N, 0, none⟩))]) := by
  refine .tu _ _ (fun i => if i = 0 then .int .i64 n else .iface (Tryz.layAtoi_ren.t 168) (.pointer (some ⟨N, 0, none⟩))) rfl ?_ ?_
  · intro i c hc
    match i with
    | 0 => rfl
    | 1 => rfl
    | i + 2 => simp at hc
  · intro i c hc
    match i with
    | 0 => simp only [List.getElem?_cons_zero, Option.some.injEq] at hc; subst hc; exact Rp.v _
    | 1 =>
      simp only [List.getElem?_cons_succ, List.getElem?_cons_zero, Option.some.injEq] at hc
      subst hc
      exact .ic _ _ _ (.pt [] 0 N 0 (fun _ => .nilIface) hO hN (fun i c h => by simp at h) (fun i c h => by simp at h))
    | i + 2 => simp at hc
theorem ok_tu {O : Nat → Prop} {w : World} {n : Int} : Rp O w (.tu [iv n, .v .nilIface]) (.tuple #[.int .i64 n, .nilIface]) := by
  refine .tu _ _ (fun i => if i = 0 then .int .i64 n else .nilIface) rfl ?_ ?_
  · intro i c hc
    match i with
    | 0 => rfl
    | 1 => rfl
    | i + 2 => simp at hc
  · intro i c hc
    match i with
    | 0 => simp only [List.getElem?_cons_zero, Option.some.injEq] at hc; subst hc; exact Rp.v _
    | 1 => simp only [List.getElem?_cons_succ, List.getElem?_cons_zero, Option.some.injEq] at hc; subst hc; exact Rp.v _
    | i + 2 => simp at hc
theorem c_AtoiOk (s : ByteArray) (hs : s.size ≤ 281474976710656) (v : Int) (h : Lib.atoiAll s.data.toList = .ok v) :
    Pure Tryz.prog 65 [AV.v (.string s)] (.tu [iv v, .v .nilIface]) := by
  refine ⟨Tryz.call65, fun O w vs hr hO => ?_⟩
  obtain rfl := one_arg hr
  refine (Any.strconv_Atoi_ok Tryz.layAtoi s (by omega) v h w).mono fun e w' ⟨he, hw⟩ => ?_
  refine ⟨_, he, ?_, ok_tu⟩
  rcases hw with rfl | ⟨t, rfl⟩
  · exact Gr.refl _
  · exact Gr.of_below ⟨rfl, rfl, rfl, by rw [Lib.bytesWorld_size]; omega, fun k hk => Lib.bytesWorld_at_old w _ t k hk⟩ (.inl Lo.h)
theorem c_AtoiSyntax (s : ByteArray) (hs : s.size ≤ 281474976710656) (h : ∀ v, Lib.atoiAll s.data.toList ≠ .ok v) (h2 : Lib.atoiAll s.data.toList ≠ .range) :
    Pure Tryz.prog 65 [AV.v (.string s)] (.tu [iv 0, errA]) := by
  refine ⟨Tryz.call65, fun O w vs hr hO => ?_⟩
  obtain rfl := one_arg hr
  obtain ⟨tp, p, hv⟩ := hO.2.1
  cases hq : Lib.atoiAll s.data.toList
  · exact absurd hq (h _)
  rotate_left
  · exact absurd hq h2
  refine (Any.strconv_Atoi_syntax_var Tryz.layAtoi s hs hq tp p w hv.var).mono fun e w' ⟨N, he, h1, h2, h3⟩ => ?_
  exact ⟨_, he, Gr.of_below h3 (.inl Lo.h), err_tu (fun h => by have := hO.1 _ h; omega) (lt_heap h2)⟩
theorem c_AtoiRange (s : ByteArray) (hs : s.size ≤ 281474976710656) (h : Lib.atoiAll s.data.toList = .range) :
    Pure Tryz.prog 65 [AV.v (.string s)] (.tu [iv (Lib.atoiSat s.data.toList), errA]) := by
  refine ⟨Tryz.call65, fun O w vs hr hO => ?_⟩
  obtain rfl := one_arg hr
  obtain ⟨tp, p, hv⟩ := hO.2.2.1
  refine (Any.strconv_Atoi_range_var Tryz.layAtoi s hs h tp p w hv.var).mono fun e w' ⟨N, he, h1, h2, h3⟩ => ?_
  exact ⟨_, he, Gr.of_below h3 (.inl Lo.h), err_tu (fun h => by have := hO.1 _ h; omega) (lt_heap h2)⟩
end Go.Proofs.YtpdecefdhkhlnaaGreatDoor
set_option linter.unusedSimpArgs false
set_option linter.unusedVariables false
set_option linter.unusedSectionVars false
namespace Go.Ab
variable [Dr]
open Go.RowKit
structure IterL (P : Program) (f : FuncId) (q : Nat) (H0 : Hp) (cap : List AV) (ys : Nat → Option (List AV)) (an : Nat → Bool) (n : Nat) : Prop where
  can : Callable P f
  run : ∀ (y : Yd), YdOk P y → y.ys = ys → y.an = an → ∀ (O : Nat → Prop) (w : World) (vs : Array Value) (β0 : Bt), Rs β0 O w cap vs → HC (fun _ => False) (fun _ => False) β0 O H0 q w →
    y.I 0 (fun b => b < w.heap.size ∧ ¬ ∃ k st, β0 k = some (some (b, st))) O w →
    Calls P f (#[.func (.yield y.l) #[] #[]] ++ vs) w (fun e w' => (∃ u, e = .returned u) ∧ ∃ B' O', y.I n B' O' w')
def entryL (q : Nat) (H0 : Hp) (avs : List AV) (n : Nat) : St := { fr := entryFr 0 avs, hp := H0, nx := q, n := (n, q, 0) }
theorem rs_cons {β : Bt} {O : Nat → Prop} {w : World} {avs : List AV} {vs : Array Value} (x : Value) (h : Rs β O w avs vs) : Rs β O w (.v x :: avs) (#[x] ++ vs) := by
  refine ⟨by rw [Array.size_append, h.1, List.length_cons]; exact Nat.add_comm _ _, fun i a ha => ?_⟩
  cases i with
  | zero => simp at ha; subst ha; exact ⟨x, Array.getElem?_append_left (xs := #[x]) Nat.zero_lt_one, .pl _ _ (.v x)⟩
  | succ i =>
    obtain ⟨u, p, q⟩ := h.2 i a (by simpa using ha)
    exact ⟨u, by rw [Array.getElem?_append_right (by simp)]; simpa using p, q⟩
theorem iterL_intro {E : Ev} (hE : EvOk E) (mu : List Nat) {f : FuncId} {fn : Func} {c : Code} {cap : List AV} {q : Nat} {H0 : Hp} {ys : Nat → Option (List AV)} {an : Nat → Bool} {n : Nat} (hf : E.P.funcs[f]? = some fn) (hb : fn.body = some c) (hcan : Callable E.P f)
    (h : ∀ y : Yd, y.ys = ys → y.an = an → VC (E.withY y) mu c ⟨itP n E fn, fun _ _ => False, itP n E fn⟩ (entryL q H0 (.v (.func (.yield y.l) #[] #[]) :: cap) fn.ntmps)) (hro : E.ro = none := by rfl) : IterL E.P f q H0 cap ys an n := by
  refine ⟨hcan, fun y hy hys han O w vs β0 hr hH hI => calls_of_wp hf hb ?_⟩
  let B : Nat → Prop := fun b => b < w.heap.size ∧ ¬ ∃ k st, β0 k = some (some (b, st))
  let g : Gh := { B0 := B, O0 := fun _ => False, inv := y.I 0 B, mark := False, stab := fun O1 w1 O2 w2 => hy.stab _ _ _ _ _ _, p := 0, βp := fun _ => none, Op := O, wp := w, hp := fun _ _ => rfl }
  have hcn : Cn g β0 O (entryL q H0 (.v (.func (.yield y.l) #[] #[]) :: cap) fn.ntmps) { tmps := (#[.func (.yield y.l) #[] #[]] ++ vs) ++ Array.replicate (fn.ntmps - (#[Value.func (.yield y.l) #[] #[]] ++ vs).size) undef, defers := [] } w := by
    refine entry_cf (g := g) (rs_cons (.func (.yield y.l) #[] #[]) hr) ⟨fun k c hk => ?_, hH.inj, hH.own, fun b hb => hb.elim, hH.free, hH.fresh⟩ hI (fun b hb => hb.1) (Nat.zero_le _) (fun k q h => by cases h) (Tr.refl _ _)
    rcases hH.row k c hk with h1 | ⟨b, st, h1, h2, _, h4⟩
    · exact .inl h1
    · exact .inr ⟨b, st, h1, h2, fun hb => hb.2 ⟨k, st, h1⟩, h4⟩
  have hY : YOk (E.withY y) := fun y' hy' => by rw [withY_Y] at hy'; cases hy'; exact hy
  have hfit : Fit (E.withY y) g (entryL q H0 (.v (.func (.yield y.l) #[] #[]) :: cap) fn.ntmps) := ⟨fun y' hy' => by rw [withY_Y] at hy'; cases hy'; exact ⟨rfl, id⟩, fun e => by rw [withY_Y] at e; cases e⟩
  have hw := h y hys han hY g _ O _ w hfit hcn
  have hro' : (E.withY y).ro = none := hro
  rw [hro'] at hw
  have hw' := wpIn_wide.1 hw
  have fin : ∀ (a : Act) (w' : World), NxtP (E.withY y) g (itP n E fn) a w' → a.defers = [] ∧ ∃ v, (results fn a.tmps).run E.P w' = .ok v w' ∧ ((∃ u, Ending.returned v = .returned u) ∧ ∃ B' O', y.I n B' O' w') := by
    intro a w' ⟨g', β', O', σ', _, hf', ⟨hn, hres⟩, hc⟩
    have hd : a.defers = [] := Classical.byContradiction fun hne => (hf'.1 y rfl).2 (hc.defers.may hne)
    obtain ⟨r, v, _, h4, _⟩ := results_run hE (E := E) hc (K := fun _ => True) hres
    have hi := hc.inv
    rw [(hf'.1 y rfl).1, hn] at hi
    exact ⟨hd, v, h4, ⟨_, rfl⟩, _, _, hi⟩
  refine Code.wp_mono (fun e a w' hq => ?_) hw'
  cases e with
  | normal => exact fin a w' hq
  | ret => exact fin a w' hq
  | exit id => obtain ⟨_, _, _, _, _, _, h1, _⟩ := hq; exact h1.elim
  | _ => exact hq.elim
theorem v_rangeL {E : Ev} (hE : EvOk E) {mu : List Nat} {gop : Operand} {ps : Array Nat} {assign body : Code} {σ : St} {N Z : St → Prop} {X : Nat → St → Prop} {fid : FuncId} {cap cap' : List AV} {q : Nat} {H0 : Hp} {ys : Nat → Option (List AV)} {n : Nat}
    (Hs : Nat → Hp) (ns : Nat → Nat) (hg : σ.ge gop = .fn (.func fid) [] cap) (ρ : Nat → Nat) (hcs : ∀ (β β0 : Bt) (O : Nat → Prop) (w : World) (vs : Array Value), (∀ i, i < q → β0 i = β (ρ i)) → Rs β O w cap vs → Rs β0 O w cap' vs) (hH0 : ∀ i c, H0 i = some c → i < q ∧ σ.hp (ρ i) = some c ∧ plainL c = true) (hq0 : ∀ i, i < q → H0 i ≠ none) (hinj : ∀ i j, i < q → j < q → ρ i = ρ j → i = j) (hit : IterL E.P fid q H0 cap' ys (fun _ => true) n) (h0 : ∀ k c, Hs 0 k = some c → σ.hp k = some c ∧ ∀ i, i < q → ρ i ≠ k) (h0' : σ.nx = ns 0)
    (hys : ∀ t avs, ys t = some avs → avs.length = ps.toList.length) (hps : ∀ p ∈ ps.toList, p < σ.n.1)
    (hround : ∀ t avs l, ys t = some avs → VC (E.inR l) mu assign ⟨fun σ1 => VC (E.inR l) mu body ⟨endR (Hs (t + 1)) (ns (t + 1)), fun _ _ => False, fun _ => False⟩ σ1, fun _ _ => False, fun _ => False⟩ ⟨putL ps.toList avs σ.fr, Hs t, ns t, (σ.n.1, σ.nx, 0)⟩)
    (hN : N { σ with hp := Hs n, nx := ns n }) (hro : E.ro = none := by rfl) (hYn : E.Y = none := by rfl) : VC E mu (.rangeFunc gop ps assign body) ⟨N, X, Z⟩ σ := by
  intro hY g β O a w hf hc
  let β0 : Bt := fun i => if i < q then β (ρ i) else none
  let S : Nat → Prop := fun b => ∃ k st, β0 k = some (some (b, st))
  have hS : ∀ b, S b → ∃ i st c, i < q ∧ β (ρ i) = some (some (b, st)) ∧ σ.hp (ρ i) = some c ∧ O b ∧ ¬ g.B0 b ∧ RowAt β O w b st c := by
    rintro b ⟨i, st, hi⟩
    have hiq : i < q := Classical.byContradiction fun h => by simp only [β0, if_neg h] at hi; cases hi
    simp only [β0, if_pos hiq] at hi
    cases hh : H0 i with
    | none => exact absurd hh (hq0 i hiq)
    | some c =>
      obtain ⟨_, e1, _⟩ := hH0 i c hh
      rcases hc.hc.row _ c e1 with ⟨p, _⟩ | ⟨b', st', p1, p2, p3, p4⟩
      · rw [hi] at p; cases p
      · rw [hi] at p1; cases p1; exact ⟨i, st, c, hiq, hi, e1, p2, p3, p4⟩
  have hSb : ∀ b, g.B0 b → ¬ S b := fun b hb h => let ⟨_, _, _, _, _, _, _, h', _⟩ := hS b h; h' hb
  have hSlt : ∀ b, S b → b < w.heap.size := fun b h => let ⟨_, _, _, _, _, _, _, _, h'⟩ := hS b h; h'.lt
  have hmark : g.mark := hf.2 hYn hro
  obtain ⟨us, vs, hgv, hus, hvs, hu, hv⟩ := (show R β O w (.fn (.func fid) [] cap) (a.eval gop) from hg ▸ hc.ge gop).fn_inv
  have hus0 : us = #[] := Array.eq_empty_of_size_eq_zero (by simpa using hus)
  subst hus0
  rw [hro]
  show (Code.rangeFunc gop ps assign body).wpIn Fence.wide 0 E.P _ a w
  refine wpIn_rangeFunc ?_
  intro fn hfn
  obtain ⟨rec, hrec⟩ : ∃ rec : LoopState → Option Code → Loop, rec = fun st pe => { state := st, pending := pe, fn, tmps := a.tmps, params := ps, assign, body, defers := w.heap.size } := ⟨_, rfl⟩
  obtain ⟨W1, hW1⟩ : ∃ W1, (w.alloc (.deferred (some []))).alloc (.loop (rec .ready none)) = W1 := ⟨_, rfl⟩
  let D := w.heap.size
  let l := w.heap.size + 1
  have hL1 : W1.heap[l]? = some (.loop (rec .ready none)) := by
    rw [← hW1]; have := World.alloc_heap_new (w.alloc (.deferred (some []))) (.loop (rec .ready none)); rwa [World.size_alloc] at this
  have hD1 : W1.heap[D]? = some (.deferred (some [])) := by
    rw [← hW1]; exact (Below.heap_alloc _ _ _ (by simp [D])).trans (World.alloc_heap_new w _)
  have hg1 : Gr w W1 := by
    rw [← hW1]; exact ((Gr.refl w).alloc _).alloc _
  have hsz1 : W1.heap.size = w.heap.size + 2 := by rw [← hW1]; simp
  let O1 : Nat → Prop := fun b => O b ∨ b = D ∨ b = l
  have ht1 : Tr O w O1 W1 := ⟨hg1.size, fun b hb ho => ⟨hg1.block b hb, fun h => h.elim ho (fun h => by simp only [D, l] at h; omega)⟩, fun b arr e fz hb => ⟨arr, fz, by rw [hg1.block b (lt_of_get hb)]; exact hb, rfl⟩⟩
  have hbk1 : Bk O1 W1 := fun b hb => by
    rw [hsz1]
    rcases hb with hb | hb | hb
    · have := hc.hc.own.1 b hb; omega
    · simp only [D] at hb; omega
    · simp only [l] at hb; omega
  have hp1 : Pr g.B0 O w O1 W1 := ⟨hg1.os, hg1.tape, hg1.output, hg1.drawn, fun b hb => hg1.block b (hc.b0 b hb), fun b _ ho => .inl ho, fun h => h.tr ht1 hbk1⟩
  let y : Yd := { l := l, ys := ys, I := fun t B O' w' => ∃ β' : Bt, HC g.B0 g.O0 β' O' (Hs t) (ns t) w' ∧ (∀ k b st, Hs t k ≠ none → β' k = some (some (b, st)) → B b) ∧ (∀ k q, β k = some q → β' k = some q) ∧ Tr O w O' w' ∧ g.inv O' w' ∧
    w'.heap[l]? = some (.loop (rec .ready none)) ∧ w'.heap[D]? = some (.deferred (some [])) ∧ O' l ∧ O' D ∧ (∀ b, b < w.heap.size + 2 → ¬ S b → B b) }
  have rowB : ∀ {B0 O0 : Nat → Prop} {β' : Bt} {O' : Nat → Prop} {H : Hp} {nx : Nat} {w' : World}, HC B0 O0 β' O' H nx w' → ∀ k b st, H k ≠ none → β' k = some (some (b, st)) → O' b ∧ ¬ B0 b ∧ ∃ arr e, w'.heap[b]? = some (Obj.cells arr e (0, 0)) := by
    intro B0 O0 β' O' H nx w' hh k b st hk hb
    cases hq : H k with
    | none => exact absurd hq hk
    | some c =>
      rcases hh.row k c hq with ⟨h1, _⟩ | ⟨b', st', h1, h2, h3, arr, e, h4, _⟩
      · rw [hb] at h1; cases h1
      · rw [hb] at h1; cases h1; exact ⟨h2, h3, arr, e, h4⟩
  have hyok : YdOk E.P y := by
    constructor
    · intro t B O2 w2 O3 w3 ⟨β', h1, h2, h3, h4, h5, h6, h7, h8, h9, h10⟩ ht hp
      have hBsub : ∀ b, g.B0 b → B b := fun b hb => h10 b (by have := hc.b0 b hb; omega) (hSb b hb)
      have hl : B l := h10 l (by simp only [l]; omega) (fun h => by have := hSlt _ h; simp only [l] at this; omega)
      have hD : B D := h10 D (by simp only [D]; omega) (fun h => by have := hSlt _ h; simp only [D] at this; omega)
      refine ⟨β', ⟨fun k c hk => ?_, h1.inj, hp.bk h1.own, fun b hb => ⟨hp.own b (hBsub b (h1.base b hb).2) (h1.base b hb).1, (h1.base b hb).2⟩, h1.free, h1.fresh⟩, h2, h3, h4.trans ht, g.stab _ _ _ _ h5 ht (hp.mono hBsub), (hp.block l hl).trans h6, (hp.block D hD).trans h7, hp.own l hl h8, hp.own D hD h9, h10⟩
      rcases h1.row k c hk with q | ⟨b, st, q1, q2, q3, q4⟩
      · exact .inl q
      · have hb : B b := h2 k b st (by rw [hk]; simp) q1
        exact .inr ⟨b, st, q1, hp.own b hb q2, q3, q4.mono ht (fun _ _ h => h) (hp.block b hb)⟩
    · intro t avs B O2 w2 vs2 hyst hrps ⟨β', h1, h2, h3, h4, h5, h6, h7, h8, h9, h10⟩ hO2 hB2
      have hlen : vs2.size = ps.size := by rw [hrps.1, hys t avs hyst]; simp
      have hyield := run_yield (P := E.P) (args := vs2) h6 (by rw [hrec]; exact hlen)
      refine ⟨_, _, _, _, hyield, roundIn_of_wpIn hfn ?_⟩
      let X0 : Nat → Prop := fun b => ∃ k st, Hs t k ≠ none ∧ β' k = some (some (b, st))
      let gB : Nat → Prop := fun b => b < w2.heap.size ∧ ¬ X0 b
      let gO : Nat → Prop := fun b => O2 b ∧ gB b
      let gr : (Nat → Prop) → World → Gh := fun Oa wa => { B0 := gB, O0 := gO, inv := fun O' w' => Pr gB Oa wa O' w' ∧ Tr Oa wa O' w', mark := False, stab := fun O1 w1 O2 w2 h1 h2 h3 => ⟨h1.1.trans h3, h1.2.trans h2⟩, p := σ.nx, βp := β, Op := O, wp := w, hp := hc.hc.fresh }
      have hlX : gB l := ⟨lt_of_get h6, fun ⟨k, st, hk, hb⟩ => by
        obtain ⟨_, _, arr, e, hcell⟩ := rowB h1 k l st hk hb
        rw [h6] at hcell; cases hcell⟩
      have hDX : gB D := ⟨lt_of_get h7, fun ⟨k, st, hk, hb⟩ => by
        obtain ⟨_, _, arr, e, hcell⟩ := rowB h1 k D st hk hb
        rw [h7] at hcell; cases hcell⟩
      have hlD : D ≠ l := by simp only [D, l]; omega
      have hgBg : ∀ b, g.B0 b → gB b := fun b hb => ⟨by have := hc.b0 b hb; have := h4.size; omega, fun ⟨k, st, hk, hbk⟩ => (rowB h1 k b st hk hbk).2.1 hb⟩
      have hgl : ∀ b, g.B0 b → b ≠ l := fun b hb e => by have := hc.b0 b hb; simp only [l] at e; omega
      have hcf : Cf (gr O2 w2) β' O2 (lk σ.fr) (Hs t) (ns t) (σ.n.1, σ.nx, 0) { tmps := a.tmps, defers := [] } w2 := by
        refine ⟨DefOk.nil _ _ _ _, fun t av ht => let ⟨u, p, q⟩ := hc.fr t av ht; ⟨u, p, q.mono h4 h3⟩, hc.sz, ⟨fun k c hk => ?_, h1.inj, h1.own, fun b hb => hb, h1.free, h1.fresh⟩, ⟨Pr.refl _ _ _, Tr.refl _ _⟩, fun b hb => hb.1, Nat.le_refl _, h3, h4⟩
        rcases h1.row k c hk with q | ⟨b, st, q1, q2, q3, q4⟩
        · exact .inl q
        · exact .inr ⟨b, st, q1, q2, fun hb => hb.2 ⟨k, st, by rw [hk]; simp, q1⟩, q4⟩
      have hcp2 := putL_cf ps.toList avs vs2.toList σ.fr a.tmps [] hcf (hys t avs hyst) (by simpa using hrps) hps
      have htm : (rec .ready none).tmps = a.tmps := by rw [hrec]
      have hpm : (rec .ready none).params = ps := by rw [hrec]
      have ham : (rec .ready none).assign = assign := by rw [hrec]
      have hbm : (rec .ready none).body = body := by rw [hrec]
      have hfold : ((rec .ready none).params.zip vs2).foldl (fun (t : Array Value) (x : Tmp × Value) => t.setIfInBounds x.1 x.2) (rec .ready none).tmps = (ps.toList.zip vs2.toList).foldl (fun t x => t.setIfInBounds x.1 x.2) a.tmps := by
        rw [htm, hpm, ← Array.foldl_toList, Array.toList_zip]
      have hYr : YOk (E.inR l) := fun y hy => by rw [inR_Y, hYn] at hy; cases hy
      have hfit : ∀ (g' : Gh) (σ' : St), Fit (E.inR l) g' σ' := fun g' σ' => ⟨fun y hy => by (rw [inR_Y, hYn] at hy; cases hy), fun _ e => by cases e⟩
      have hwp := hround t avs l hyst hYr (gr O2 w2) β' O2 _ w2 (hfit _ _) hcp2
      rw [ham, hbm]
      have hact : ({ tmps := ((rec .ready none).params.zip vs2).foldl (fun (t : Array Value) (x : Tmp × Value) => t.setIfInBounds x.1 x.2) (rec .ready none).tmps, defers := [] } : Act) = { tmps := (ps.toList.zip vs2.toList).foldl (fun t x => t.setIfInBounds x.1 x.2) a.tmps, defers := [] } := by rw [hfold]
      refine hact ▸ wpIn_mono hwp fun e a1 w1 hq => ?_
      cases e with
      | normal =>
        obtain ⟨g1, β1, O3, σ1, hle1, _, hVC1, hc1⟩ := hq
        have := hle1 hYn; subst this
        have hl1 : w1.heap[l]? = some (.loop (rec .ready none)) := (hc1.inv.1.block l hlX).trans h6
        have hO3l : O3 l := (hc1.hc.base l ⟨h8, hlX⟩).1
        have hnc : ∀ (r : Loop) (arr : Array Value) (e : TypeId) (fz : Nat × Nat), Obj.loop r ≠ Obj.cells arr e fz := fun _ _ _ _ h => by cases h
        have hrb := run_beginRound (P := E.P) hl1 (by rw [hrec])
        have ht1' := tr_obj (Obj.loop { rec .ready none with state := .busy }) hl1 (hnc _) hO3l
        have hcn1 : Cn (gr O3 (w1.putObj l (.loop { rec .ready none with state := .busy }))) β1 O3 σ1 a1 (w1.putObj l (.loop { rec .ready none with state := .busy })) :=
          ⟨hc1.defers.tr ht1', fun t av ht => let ⟨u, p, q⟩ := hc1.fr t av ht; ⟨u, p, q.mono ht1' (fun _ _ h => h)⟩, hc1.sz, hc_obj _ hl1 (hnc _) hO3l hc1.hc, ⟨Pr.refl _ _ _, Tr.refl _ _⟩, fun b hb => by simpa using hc1.b0 b hb, hc1.pp, hc1.prot, hc1.tr.trans ht1'⟩
        refine ⟨_, hrb, wpIn_mono (hVC1 hYr (gr O3 _) β1 O3 a1 _ (hfit _ _) hcn1) fun e a3 w3 hq => ?_⟩
        cases e with
        | normal =>
          obtain ⟨g2, β2, O4, σ2, hle2, _, ⟨σ3, he, hhp, hnx⟩, hc2⟩ := hq
          have := hle2 hYn; subst this
          obtain ⟨β3, O5, hc3⟩ := he.2 _ _ _ _ _ hc2
          have hl3 : w3.heap[l]? = some (.loop { rec .ready none with state := .busy }) := (hc3.inv.1.block l hlX).trans (World.putObj_heap_same (lt_of_get hl1))
          have hre := run_endRound (P := E.P) none hl3
          have hO5l : O5 l := (hc3.hc.base l ⟨h8, hlX⟩).1
          have hrr : ({ { rec .ready none with state := .busy } with state := if (none : Option Code).isNone then .ready else .done, pending := none } : Loop) = rec .ready none := by rw [hrec]; rfl
          rw [hrr] at hre
          have ht5 := tr_obj (Obj.loop (rec .ready none)) hl3 (hnc _) hO5l
          have hT : Tr O2 w2 O5 (w3.putObj l (.loop (rec .ready none))) := hc1.inv.2.trans (ht1'.trans (hc3.inv.2.trans ht5))
          have hblock : ∀ b, gB b → b ≠ l → (w3.putObj l (.loop (rec .ready none))).heap[b]? = w2.heap[b]? := fun b hb hne =>
            (World.putObj_heap_other hne).trans ((hc3.inv.1.block b hb).trans ((World.putObj_heap_other hne).trans (hc1.inv.1.block b hb)))
          have hown : ∀ b, gB b → O2 b → O5 b := fun b hb ho => (hc3.hc.base b ⟨ho, hb⟩).1
          have hc4 := hc_obj (Obj.loop (rec .ready none)) hl3 (hnc _) hO5l hc3.hc
          rw [hhp, hnx] at hc4
          have hsz3 : (w3.putObj l (.loop (rec .ready none))).heap.size = w3.heap.size := World.putObj_size
          have hpr : Pr g.B0 O2 w2 O5 (w3.putObj l (.loop (rec .ready none))) :=
            ⟨hc3.inv.1.os.trans hc1.inv.1.os, hc3.inv.1.tape.trans hc1.inv.1.tape, hc3.inv.1.output.trans hc1.inv.1.output, hc1.inv.1.drawn.trans hc3.inv.1.drawn, fun b hb => hblock b (hgBg b hb) (hgl b hb), fun b hb ho => hown b (hgBg b hb) ho, fun _ => hc4.own⟩
          refine ⟨_, _, hre, rfl, fun b => B b ∨ (w2.heap.size ≤ b ∧ b < w3.heap.size), O5, ?_, ?_⟩
          · refine ⟨β3, ⟨fun k c hk => ?_, hc4.inj, hc4.own, fun b hb => ⟨hown b (hgBg b (h1.base b hb).2) (h1.base b hb).1, (h1.base b hb).2⟩, hc4.free, hc4.fresh⟩, fun k b st hk hb => ?_, hc3.prot, hc3.tr.trans ht5, g.stab _ _ _ _ h5 hT hpr, World.putObj_heap_same (lt_of_get hl3), (hblock D hDX hlD).trans h7, hO5l, hown D hDX h9, fun b hb hs => .inl (h10 b hb hs)⟩
            · rcases hc4.row k c hk with q | ⟨b, st, q1, q2, q3, q4⟩
              · exact .inl q
              · exact .inr ⟨b, st, q1, q2, fun hb => q3 (hgBg b hb), q4⟩
            · obtain ⟨_, q, arr, e, hcell⟩ := rowB hc4 k b st hk hb
              by_cases hlt : b < w2.heap.size
              · have hx : X0 b := Classical.byContradiction fun hn => q ⟨hlt, hn⟩
                obtain ⟨k', st', hk', hb'⟩ := hx
                exact .inl (h2 k' b st' hk' hb')
              · have := lt_of_get hcell
                exact .inr ⟨by omega, by omega⟩
          · refine ⟨hT, fun b hb ho hnb => ?_, fun b hb => .inl hb, fun b hb h => h.elim id (fun h => by omega), hc4.own.1, fun b hb => hb.elim (fun h => Nat.lt_of_lt_of_le (hB2 b h) hT.size) (fun h => by rw [hsz3]; exact h.2)⟩
            have hgb : gB b := ⟨hb, fun ⟨k, st, hk, hbk⟩ => hnb (h2 k b st hk hbk)⟩
            have hne : b ≠ l := fun e => hnb (h10 b (by simp only [l] at e; omega) (fun h => by have := hSlt _ h; simp only [l] at e; omega))
            exact ⟨hblock b hgb hne, hown b hgb ho, fun h => h.elim hnb (fun h => by omega)⟩
        | ret => obtain ⟨_, _, _, _, _, _, h, _⟩ := hq; exact h.elim
        | exit id => obtain ⟨_, _, _, _, _, _, h, _⟩ := hq; exact h.elim
        | _ => exact hq.elim
      | ret => obtain ⟨_, _, _, _, _, _, h, _⟩ := hq; exact h.elim
      | exit id => obtain ⟨_, _, _, _, _, _, h, _⟩ := hq; exact h.elim
      | _ => exact hq.elim
  have hrs : Rs β O w cap vs := ⟨hvs, hv⟩
  have hne0 : ∀ k, Hs 0 k ≠ none → σ.hp k ≠ none := fun k h => by
    cases hh : Hs 0 k with
    | none => exact absurd hh h
    | some c => rw [(h0 k c hh).1]; simp
  have hpend : (rec .ready none).pending = none := by rw [hrec]
  refine ⟨l, [mark1 D], W1, { target := .fn (.func fid) vs, args := #[.func (.yield l) #[] #[]] }, W1, fid, #[.func (.yield l) #[] #[]] ++ vs, W1, ?_, ?_, ?_, ?_, ?_, ?_⟩
  · rw [← hW1, hrec]; exact run_enterLoop_outer _ _ _ _ _
  · simp only [resolve, hgv]
    simp [go_sem]
  · intro f' _; exact True.intro
  · simp [invoke, go_sem, hit.can _ _]
  · intro h; cases h
  · refine (callsIn_wide (n := 0 - 1)).2 ((hit.run y hyok rfl rfl O1 W1 vs β0 ?_ ?_ ?_).mono ?_)
    · have := hcs β β0 O w vs (fun i hi => if_pos hi) hrs
      exact ⟨this.1, fun i x hx => let ⟨u, p, q⟩ := this.2 i x hx; ⟨u, p, q.mono ht1 (fun _ _ h => h)⟩⟩
    · refine ⟨fun i c hi => ?_, fun i j b st st' hi hj e1 e2 => ?_, hc.hc.own.tr ht1 hbk1, fun b hb => hb.elim, fun i hi => ?_, fun i hi => if_neg (by omega)⟩
      · obtain ⟨hiq, e1, e2⟩ := hH0 i c hi
        have hb0 : β0 i = β (ρ i) := if_pos hiq
        rcases hc.hc.row _ c e1 with ⟨p, rfl⟩ | ⟨b, st, p1, p2, p3, arr, e, p4, p5, p6⟩
        · exact .inl ⟨hb0.trans p, rfl⟩
        · refine .inr ⟨b, st, hb0.trans p1, .inl p2, fun h => h.elim, arr, e, (hg1.block b (lt_of_get p4)).trans p4, p5, fun j x hj => ?_⟩
          obtain ⟨u, r1, r2⟩ := p6 j x hj
          exact ⟨u, r1, .pl _ _ ((r2.plain (plainL_get e2 hj)).mono ht1)⟩
      · have hiq : i < q := Classical.byContradiction fun h => by simp only [β0, if_neg h] at e1; cases e1
        have hjq : j < q := Classical.byContradiction fun h => by simp only [β0, if_neg h] at e2; cases e2
        simp only [β0, if_pos hiq] at e1
        simp only [β0, if_pos hjq] at e2
        have ne : ∀ i, i < q → σ.hp (ρ i) ≠ none := fun i hi h => by
          cases hh : H0 i with
          | none => exact absurd hh (hq0 i hi)
          | some c => rw [(hH0 i c hh).2.1] at h; cases h
        exact hinj i j hiq hjq (hc.hc.inj _ _ b st st' (ne i hiq) (ne j hjq) e1 e2)
      · cases hh : H0 i with
        | none => rfl
        | some c => have := (hH0 i c hh).1; omega
    · refine ⟨β, ⟨fun k c hk => ?_, ?_, hc.hc.own.tr ht1 hbk1, fun b hb => ⟨.inl (hc.hc.base b hb).1, (hc.hc.base b hb).2⟩, ?_, ?_⟩, fun k b st hk hb => ?_, fun k q h => h, ht1, g.stab _ _ _ _ hc.inv ht1 hp1, hL1, hD1, .inr (.inr rfl), .inr (.inl rfl), fun b hb hs => ?_⟩
      · rcases hc.hc.row k c (h0 k c hk).1 with q | ⟨b, st, q1, q2, q3, q4⟩
        · exact .inl q
        · exact .inr ⟨b, st, q1, .inl q2, q3, q4.mono ht1 (fun _ _ h => h) (hg1.block b q4.lt)⟩
      · exact fun k k' b st st' h h' => hc.hc.inj k k' b st st' (hne0 k h) (hne0 k' h')
      · intro k hk
        rw [← h0'] at hk
        cases hh : Hs 0 k with
        | none => rfl
        | some c => have := (h0 k c hh).1; rw [hc.hc.free k hk] at this; cases this
      · rw [← h0']; exact hc.hc.fresh
      · obtain ⟨_, _, arr, e, hcell⟩ := rowB hc.hc k b st (hne0 k hk) hb
        have := lt_of_get hcell
        show b < W1.heap.size ∧ _
        refine ⟨by omega, fun hs => ?_⟩
        obtain ⟨i, st', c', hiq, e1, e2, _⟩ := hS b hs
        have := hc.hc.inj k (ρ i) b st st' (hne0 k hk) (by rw [e2]; simp) hb e1
        cases hh : Hs 0 k with
        | none => exact hk hh
        | some c => exact (h0 k c hh).2 i hiq this.symm
      · show b < W1.heap.size ∧ _
        exact ⟨by omega, hs⟩
    · rintro e w3 ⟨⟨u, rfl⟩, B', O3, β', h1, h2, h3, h4, h5, h6, h7, h8, h9, h10⟩
      have hend := run_endLoop (P := E.P) h6 (by rw [hrec]; simp)
      rw [hpend] at hend
      obtain ⟨o', hnc, hend⟩ : ∃ o', (∀ arr e fz, o' ≠ Obj.cells arr e fz) ∧ (Instr.endLoop l).run E.P w3 = .ok none (w3.putObj l o') := ⟨_, fun _ _ _ h => (by cases h), hend⟩
      refine ⟨none, _, hend, ?_⟩
      have hnc0 : ∀ (r : Loop) (arr : Array Value) (e : TypeId) (fz : Nat × Nat), Obj.loop r ≠ Obj.cells arr e fz := fun _ _ _ _ h => by cases h
      have hlD : D ≠ l := by simp only [D, l]; omega
      let O4 : Nat → Prop := fun b => O3 b ∧ b ≠ D
      have hto := tr_obj o' h6 (hnc0 _) h8
      have hsh : Tr O3 (w3.putObj l o') O4 (w3.putObj l o') := ⟨Nat.le_refl _, fun b _ ho => ⟨rfl, fun h => ho h.1⟩, fun b arr e fz hb => ⟨arr, fz, hb, rfl⟩⟩
      have ht := hto.trans hsh
      have hpd : Pr g.B0 O3 w3 O4 (w3.putObj l o') :=
        ⟨rfl, rfl, rfl, .of (Nat.le_refl _), fun b hb => World.putObj_heap_other (fun e => by have := hc.b0 b hb; simp only [l] at e; omega), fun b hb ho => ⟨ho, fun e => by have := hc.b0 b hb; simp only [D] at e; omega⟩, fun h => h.tr ht (fun b hb => by simpa using h.1 b hb.1)⟩
      have hhc := hc_obj o' h6 (hnc0 _) h8 h1
      have hDw : (w3.putObj l o').heap[D]? = some (.deferred (some [])) := (World.putObj_heap_other hlD).trans h7
      refine ⟨g, β', O4, { σ with hp := Hs n, nx := ns n }, Le.refl _ _, hf.n rfl, hN, ⟨?_, fun t av hta => let ⟨u, p, q⟩ := hc.fr t av hta; ⟨u, p, q.mono (h4.trans ht) h3⟩, hc.sz, ⟨fun k c hk => ?_, hhc.inj, hhc.own.tr hsh (fun b hb => hhc.own.1 b hb.1), fun b hb => ⟨⟨(hhc.base b hb).1, fun e => by have := hc.b0 b (h1.base b hb).2; simp only [D] at e; omega⟩, (hhc.base b hb).2⟩, hhc.free, hhc.fresh⟩, g.stab _ _ _ _ h5 ht hpd, fun b hb => ?_, hc.pp, fun k q hq => h3 _ _ (hc.prot k q hq), hc.tr.trans (h4.trans ht)⟩⟩
      · have hd := hc.defers.tr (h4.trans ht)
        obtain ⟨Ds, d1, d2, d3⟩ := hd.ds
        obtain ⟨Ds', d1', _, d3'⟩ := hc.defers.ds
        have hlt : ∀ D' ∈ Ds, D' < w.heap.size := by
          have : Ds = Ds' := by
            have := d1.symm.trans d1'
            exact (List.map_inj_right (fun x y h => by simpa [mark1] using h)).1 this
          subst this
          exact fun D' hD' => lt_of_get (d3' D' hD').2.2
        refine ⟨fun _ => hmark, D :: Ds, by simp [d1], List.nodup_cons.2 ⟨fun h => by have := hlt _ h; simp only [D] at this; omega, d2⟩, fun D' hD' => ?_⟩
        rcases List.mem_cons.1 hD' with e | hD'
        · subst e
          exact ⟨fun h => h.2 rfl, fun h => by have := hc.b0 _ h; simp only [D] at this; omega, hDw⟩
        · exact d3 D' hD'
      · rcases hhc.row k c hk with q | ⟨b, st, q1, q2, q3, q4⟩
        · exact .inl q
        · refine .inr ⟨b, st, q1, ⟨q2, fun e => ?_⟩, q3, q4.mono hsh (fun _ _ h => h) rfl⟩
          obtain ⟨arr, e', hcell, _⟩ := q4
          rw [e, hDw] at hcell
          cases hcell
      · have := hc.b0 b hb
        have := h4.size
        simp
        omega
theorem v_rangeLX {E : Ev} (hE : EvOk E) {mu : List Nat} {gop : Operand} {ps : Array Nat} {assign body : Code} {σ : St} {N Z : St → Prop} {X : Nat → St → Prop} {fid : FuncId} {cap cap' : List AV} {q : Nat} {H0 : Hp} {ys : Nat → Option (List AV)} {m : Nat}
    (Hs : Nat → Hp) (ns : Nat → Nat) (hg : σ.ge gop = .fn (.func fid) [] cap) (ρ : Nat → Nat) (hcs : ∀ (β β0 : Bt) (O : Nat → Prop) (w : World) (vs : Array Value), (∀ i, i < q → β0 i = β (ρ i)) → Rs β O w cap vs → Rs β0 O w cap' vs) (hH0 : ∀ i c, H0 i = some c → i < q ∧ σ.hp (ρ i) = some c ∧ plainL c = true) (hq0 : ∀ i, i < q → H0 i ≠ none) (hinj : ∀ i j, i < q → j < q → ρ i = ρ j → i = j) (hit : IterL E.P fid q H0 cap' ys (fun t => t != m) (m + 1)) (hym : ∀ t avs, ys t = some avs → t ≤ m) (h0 : ∀ k c, Hs 0 k = some c → σ.hp k = some c ∧ ∀ i, i < q → ρ i ≠ k) (h0' : σ.nx = ns 0)
    (hys : ∀ t avs, ys t = some avs → avs.length = ps.toList.length) (hps : ∀ p ∈ ps.toList, p < σ.n.1)
    (hround : ∀ t avs l, ys t = some avs → VC (E.inR l) mu assign ⟨fun σ1 => VC (E.inR l) mu body ⟨fun σ' => t ≠ m ∧ endR (Hs (t + 1)) (ns (t + 1)) σ', fun _ _ => False, fun σ' => t = m ∧ endR (Hs (t + 1)) (ns (t + 1)) σ'⟩ σ1, fun _ _ => False, fun _ => False⟩ ⟨putL ps.toList avs σ.fr, Hs t, ns t, (σ.n.1, σ.nx, 0)⟩)
    (hZ : Z { σ with hp := Hs (m + 1), nx := ns (m + 1) }) (hro : E.ro = none := by rfl) (hYn : E.Y = none := by rfl) : VC E mu (.rangeFunc gop ps assign body) ⟨N, X, Z⟩ σ := by
  intro hY g β O a w hf hc
  let β0 : Bt := fun i => if i < q then β (ρ i) else none
  let S : Nat → Prop := fun b => ∃ k st, β0 k = some (some (b, st))
  have hS : ∀ b, S b → ∃ i st c, i < q ∧ β (ρ i) = some (some (b, st)) ∧ σ.hp (ρ i) = some c ∧ O b ∧ ¬ g.B0 b ∧ RowAt β O w b st c := by
    rintro b ⟨i, st, hi⟩
    have hiq : i < q := Classical.byContradiction fun h => by simp only [β0, if_neg h] at hi; cases hi
    simp only [β0, if_pos hiq] at hi
    cases hh : H0 i with
    | none => exact absurd hh (hq0 i hiq)
    | some c =>
      obtain ⟨_, e1, _⟩ := hH0 i c hh
      rcases hc.hc.row _ c e1 with ⟨p, _⟩ | ⟨b', st', p1, p2, p3, p4⟩
      · rw [hi] at p; cases p
      · rw [hi] at p1; cases p1; exact ⟨i, st, c, hiq, hi, e1, p2, p3, p4⟩
  have hSb : ∀ b, g.B0 b → ¬ S b := fun b hb h => let ⟨_, _, _, _, _, _, _, h', _⟩ := hS b h; h' hb
  have hSlt : ∀ b, S b → b < w.heap.size := fun b h => let ⟨_, _, _, _, _, _, _, _, h'⟩ := hS b h; h'.lt
  have hmark : g.mark := hf.2 hYn hro
  obtain ⟨us, vs, hgv, hus, hvs, hu, hv⟩ := (show R β O w (.fn (.func fid) [] cap) (a.eval gop) from hg ▸ hc.ge gop).fn_inv
  have hus0 : us = #[] := Array.eq_empty_of_size_eq_zero (by simpa using hus)
  subst hus0
  rw [hro]
  show (Code.rangeFunc gop ps assign body).wpIn Fence.wide 0 E.P _ a w
  refine wpIn_rangeFunc ?_
  intro fn hfn
  obtain ⟨rec, hrec⟩ : ∃ rec : LoopState → Option Code → Loop, rec = fun st pe => { state := st, pending := pe, fn, tmps := a.tmps, params := ps, assign, body, defers := w.heap.size } := ⟨_, rfl⟩
  obtain ⟨W1, hW1⟩ : ∃ W1, (w.alloc (.deferred (some []))).alloc (.loop (rec .ready none)) = W1 := ⟨_, rfl⟩
  let D := w.heap.size
  let l := w.heap.size + 1
  have hL1 : W1.heap[l]? = some (.loop (rec .ready none)) := by
    rw [← hW1]; have := World.alloc_heap_new (w.alloc (.deferred (some []))) (.loop (rec .ready none)); rwa [World.size_alloc] at this
  have hD1 : W1.heap[D]? = some (.deferred (some [])) := by
    rw [← hW1]; exact (Below.heap_alloc _ _ _ (by simp [D])).trans (World.alloc_heap_new w _)
  have hg1 : Gr w W1 := by
    rw [← hW1]; exact ((Gr.refl w).alloc _).alloc _
  have hsz1 : W1.heap.size = w.heap.size + 2 := by rw [← hW1]; simp
  obtain ⟨rt, hrt⟩ : ∃ rt : Nat → Loop, rt = fun t => if t ≤ m then rec .ready none else rec .done (some .ret) := ⟨_, rfl⟩
  have hrt0 : ∀ t, t ≤ m → rt t = rec .ready none := fun t h => by rw [hrt]; exact if_pos h
  have hrtX : ∀ t, rt t ≠ rec .busy none := fun t h => by rw [hrt, hrec] at h; dsimp only at h; split at h <;> cases h
  let O1 : Nat → Prop := fun b => O b ∨ b = D ∨ b = l
  have ht1 : Tr O w O1 W1 := ⟨hg1.size, fun b hb ho => ⟨hg1.block b hb, fun h => h.elim ho (fun h => by simp only [D, l] at h; omega)⟩, fun b arr e fz hb => ⟨arr, fz, by rw [hg1.block b (lt_of_get hb)]; exact hb, rfl⟩⟩
  have hbk1 : Bk O1 W1 := fun b hb => by
    rw [hsz1]
    rcases hb with hb | hb | hb
    · have := hc.hc.own.1 b hb; omega
    · simp only [D] at hb; omega
    · simp only [l] at hb; omega
  have hp1 : Pr g.B0 O w O1 W1 := ⟨hg1.os, hg1.tape, hg1.output, hg1.drawn, fun b hb => hg1.block b (hc.b0 b hb), fun b _ ho => .inl ho, fun h => h.tr ht1 hbk1⟩
  let y : Yd := { l := l, ys := ys, I := fun t B O' w' => ∃ β' : Bt, HC g.B0 g.O0 β' O' (Hs t) (ns t) w' ∧ (∀ k b st, Hs t k ≠ none → β' k = some (some (b, st)) → B b) ∧ (∀ k q, β k = some q → β' k = some q) ∧ Tr O w O' w' ∧ g.inv O' w' ∧
    w'.heap[l]? = some (.loop (rt t)) ∧ w'.heap[D]? = some (.deferred (some [])) ∧ O' l ∧ O' D ∧ (∀ b, b < w.heap.size + 2 → ¬ S b → B b), an := fun t => t != m }
  have rowB : ∀ {B0 O0 : Nat → Prop} {β' : Bt} {O' : Nat → Prop} {H : Hp} {nx : Nat} {w' : World}, HC B0 O0 β' O' H nx w' → ∀ k b st, H k ≠ none → β' k = some (some (b, st)) → O' b ∧ ¬ B0 b ∧ ∃ arr e, w'.heap[b]? = some (Obj.cells arr e (0, 0)) := by
    intro B0 O0 β' O' H nx w' hh k b st hk hb
    cases hq : H k with
    | none => exact absurd hq hk
    | some c =>
      rcases hh.row k c hq with ⟨h1, _⟩ | ⟨b', st', h1, h2, h3, arr, e, h4, _⟩
      · rw [hb] at h1; cases h1
      · rw [hb] at h1; cases h1; exact ⟨h2, h3, arr, e, h4⟩
  have hyok : YdOk E.P y := by
    constructor
    · intro t B O2 w2 O3 w3 ⟨β', h1, h2, h3, h4, h5, h6, h7, h8, h9, h10⟩ ht hp
      have hBsub : ∀ b, g.B0 b → B b := fun b hb => h10 b (by have := hc.b0 b hb; omega) (hSb b hb)
      have hl : B l := h10 l (by simp only [l]; omega) (fun h => by have := hSlt _ h; simp only [l] at this; omega)
      have hD : B D := h10 D (by simp only [D]; omega) (fun h => by have := hSlt _ h; simp only [D] at this; omega)
      refine ⟨β', ⟨fun k c hk => ?_, h1.inj, hp.bk h1.own, fun b hb => ⟨hp.own b (hBsub b (h1.base b hb).2) (h1.base b hb).1, (h1.base b hb).2⟩, h1.free, h1.fresh⟩, h2, h3, h4.trans ht, g.stab _ _ _ _ h5 ht (hp.mono hBsub), (hp.block l hl).trans h6, (hp.block D hD).trans h7, hp.own l hl h8, hp.own D hD h9, h10⟩
      rcases h1.row k c hk with q | ⟨b, st, q1, q2, q3, q4⟩
      · exact .inl q
      · have hb : B b := h2 k b st (by rw [hk]; simp) q1
        exact .inr ⟨b, st, q1, hp.own b hb q2, q3, q4.mono ht (fun _ _ h => h) (hp.block b hb)⟩
    · intro t avs B O2 w2 vs2 hyst hrps ⟨β', h1, h2, h3, h4, h5, h6, h7, h8, h9, h10⟩ hO2 hB2
      rw [hrt0 t (hym t avs hyst)] at h6
      have hlen : vs2.size = ps.size := by rw [hrps.1, hys t avs hyst]; simp
      have hyield := run_yield (P := E.P) (args := vs2) h6 (by rw [hrec]; exact hlen)
      refine ⟨_, _, _, _, hyield, roundIn_of_wpIn hfn ?_⟩
      let X0 : Nat → Prop := fun b => ∃ k st, Hs t k ≠ none ∧ β' k = some (some (b, st))
      let gB : Nat → Prop := fun b => b < w2.heap.size ∧ ¬ X0 b
      let gO : Nat → Prop := fun b => O2 b ∧ gB b
      let gr : (Nat → Prop) → World → Gh := fun Oa wa => { B0 := gB, O0 := gO, inv := fun O' w' => Pr gB Oa wa O' w' ∧ Tr Oa wa O' w', mark := False, stab := fun O1 w1 O2 w2 h1 h2 h3 => ⟨h1.1.trans h3, h1.2.trans h2⟩, p := σ.nx, βp := β, Op := O, wp := w, hp := hc.hc.fresh }
      have hlX : gB l := ⟨lt_of_get h6, fun ⟨k, st, hk, hb⟩ => by
        obtain ⟨_, _, arr, e, hcell⟩ := rowB h1 k l st hk hb
        rw [h6] at hcell; cases hcell⟩
      have hDX : gB D := ⟨lt_of_get h7, fun ⟨k, st, hk, hb⟩ => by
        obtain ⟨_, _, arr, e, hcell⟩ := rowB h1 k D st hk hb
        rw [h7] at hcell; cases hcell⟩
      have hlD : D ≠ l := by simp only [D, l]; omega
      have hgBg : ∀ b, g.B0 b → gB b := fun b hb => ⟨by have := hc.b0 b hb; have := h4.size; omega, fun ⟨k, st, hk, hbk⟩ => (rowB h1 k b st hk hbk).2.1 hb⟩
      have hgl : ∀ b, g.B0 b → b ≠ l := fun b hb e => by have := hc.b0 b hb; simp only [l] at e; omega
      have hcf : Cf (gr O2 w2) β' O2 (lk σ.fr) (Hs t) (ns t) (σ.n.1, σ.nx, 0) { tmps := a.tmps, defers := [] } w2 := by
        refine ⟨DefOk.nil _ _ _ _, fun t av ht => let ⟨u, p, q⟩ := hc.fr t av ht; ⟨u, p, q.mono h4 h3⟩, hc.sz, ⟨fun k c hk => ?_, h1.inj, h1.own, fun b hb => hb, h1.free, h1.fresh⟩, ⟨Pr.refl _ _ _, Tr.refl _ _⟩, fun b hb => hb.1, Nat.le_refl _, h3, h4⟩
        rcases h1.row k c hk with q | ⟨b, st, q1, q2, q3, q4⟩
        · exact .inl q
        · exact .inr ⟨b, st, q1, q2, fun hb => hb.2 ⟨k, st, by rw [hk]; simp, q1⟩, q4⟩
      have hcp2 := putL_cf ps.toList avs vs2.toList σ.fr a.tmps [] hcf (hys t avs hyst) (by simpa using hrps) hps
      have htm : (rec .ready none).tmps = a.tmps := by rw [hrec]
      have hpm : (rec .ready none).params = ps := by rw [hrec]
      have ham : (rec .ready none).assign = assign := by rw [hrec]
      have hbm : (rec .ready none).body = body := by rw [hrec]
      have hfold : ((rec .ready none).params.zip vs2).foldl (fun (t : Array Value) (x : Tmp × Value) => t.setIfInBounds x.1 x.2) (rec .ready none).tmps = (ps.toList.zip vs2.toList).foldl (fun t x => t.setIfInBounds x.1 x.2) a.tmps := by
        rw [htm, hpm, ← Array.foldl_toList, Array.toList_zip]
      have hYr : YOk (E.inR l) := fun y hy => by rw [inR_Y, hYn] at hy; cases hy
      have hfit : ∀ (g' : Gh) (σ' : St), Fit (E.inR l) g' σ' := fun g' σ' => ⟨fun y hy => by (rw [inR_Y, hYn] at hy; cases hy), fun _ e => by cases e⟩
      have hwp := hround t avs l hyst hYr (gr O2 w2) β' O2 _ w2 (hfit _ _) hcp2
      rw [ham, hbm]
      have hact : ({ tmps := ((rec .ready none).params.zip vs2).foldl (fun (t : Array Value) (x : Tmp × Value) => t.setIfInBounds x.1 x.2) (rec .ready none).tmps, defers := [] } : Act) = { tmps := (ps.toList.zip vs2.toList).foldl (fun t x => t.setIfInBounds x.1 x.2) a.tmps, defers := [] } := by rw [hfold]
      refine hact ▸ wpIn_mono hwp fun e a1 w1 hq => ?_
      cases e with
      | normal =>
        obtain ⟨g1, β1, O3, σ1, hle1, _, hVC1, hc1⟩ := hq
        have := hle1 hYn; subst this
        have hl1 : w1.heap[l]? = some (.loop (rec .ready none)) := (hc1.inv.1.block l hlX).trans h6
        have hO3l : O3 l := (hc1.hc.base l ⟨h8, hlX⟩).1
        have hnc : ∀ (r : Loop) (arr : Array Value) (e : TypeId) (fz : Nat × Nat), Obj.loop r ≠ Obj.cells arr e fz := fun _ _ _ _ h => by cases h
        have hrb := run_beginRound (P := E.P) hl1 (by rw [hrec])
        have ht1' := tr_obj (Obj.loop { rec .ready none with state := .busy }) hl1 (hnc _) hO3l
        have hcn1 : Cn (gr O3 (w1.putObj l (.loop { rec .ready none with state := .busy }))) β1 O3 σ1 a1 (w1.putObj l (.loop { rec .ready none with state := .busy })) :=
          ⟨hc1.defers.tr ht1', fun t av ht => let ⟨u, p, q⟩ := hc1.fr t av ht; ⟨u, p, q.mono ht1' (fun _ _ h => h)⟩, hc1.sz, hc_obj _ hl1 (hnc _) hO3l hc1.hc, ⟨Pr.refl _ _ _, Tr.refl _ _⟩, fun b hb => by simpa using hc1.b0 b hb, hc1.pp, hc1.prot, hc1.tr.trans ht1'⟩
        have fin : ∀ (jump : Option Code) (a3 : Act) (w3 : World), (t ≠ m ∧ jump = none ∨ t = m ∧ jump = some .ret) → NxtP (E.inR l) (gr O3 (w1.putObj l (.loop { rec .ready none with state := .busy }))) (endR (Hs (t + 1)) (ns (t + 1))) a3 w3 →
            ∃ (v : Value) (w4 : World), (Instr.endRound l jump).run E.P w3 = .ok v w4 ∧ (Ending.returned v = .returned (.bool (y.an t)) ∧ ∃ B' O', y.I (t + 1) B' O' w4 ∧ Rnd B O2 w2 B' O' w4) := by
          rintro jump a3 w3 hj ⟨g2, β2, O4, σ2, hle2, _, ⟨σ3, he, hhp, hnx⟩, hc2⟩
          have := hle2 hYn; subst this
          obtain ⟨β3, O5, hc3⟩ := he.2 _ _ _ _ _ hc2
          have hl3 : w3.heap[l]? = some (.loop { rec .ready none with state := .busy }) := (hc3.inv.1.block l hlX).trans (World.putObj_heap_same (lt_of_get hl1))
          have hre := run_endRound (P := E.P) jump hl3
          have hO5l : O5 l := (hc3.hc.base l ⟨h8, hlX⟩).1
          have hrr : ({ { rec .ready none with state := .busy } with state := if jump.isNone then .ready else .done, pending := jump } : Loop) = rt (t + 1) := by
            rw [hrt, hrec]
            rcases hj with ⟨h1, rfl⟩ | ⟨h1, rfl⟩
            · have := hym t avs hyst; dsimp only; rw [if_pos (show t + 1 ≤ m by omega)]; rfl
            · dsimp only; rw [if_neg (show ¬ t + 1 ≤ m by omega)]; rfl
          have han : y.an t = jump.isNone := by
            show (t != m) = jump.isNone
            rcases hj with ⟨h1, rfl⟩ | ⟨h1, rfl⟩
            · simpa using h1
            · simpa using h1
          rw [hrr] at hre
          have ht5 := tr_obj (Obj.loop (rt (t + 1))) hl3 (hnc _) hO5l
          have hT : Tr O2 w2 O5 (w3.putObj l (.loop (rt (t + 1)))) := hc1.inv.2.trans (ht1'.trans (hc3.inv.2.trans ht5))
          have hblock : ∀ b, gB b → b ≠ l → (w3.putObj l (.loop (rt (t + 1)))).heap[b]? = w2.heap[b]? := fun b hb hne =>
            (World.putObj_heap_other hne).trans ((hc3.inv.1.block b hb).trans ((World.putObj_heap_other hne).trans (hc1.inv.1.block b hb)))
          have hown : ∀ b, gB b → O2 b → O5 b := fun b hb ho => (hc3.hc.base b ⟨ho, hb⟩).1
          have hc4 := hc_obj (Obj.loop (rt (t + 1))) hl3 (hnc _) hO5l hc3.hc
          rw [hhp, hnx] at hc4
          have hsz3 : (w3.putObj l (.loop (rt (t + 1)))).heap.size = w3.heap.size := World.putObj_size
          have hpr : Pr g.B0 O2 w2 O5 (w3.putObj l (.loop (rt (t + 1)))) :=
            ⟨hc3.inv.1.os.trans hc1.inv.1.os, hc3.inv.1.tape.trans hc1.inv.1.tape, hc3.inv.1.output.trans hc1.inv.1.output, hc1.inv.1.drawn.trans hc3.inv.1.drawn, fun b hb => hblock b (hgBg b hb) (hgl b hb), fun b hb ho => hown b (hgBg b hb) ho, fun _ => hc4.own⟩
          refine ⟨_, _, hre, by rw [han], fun b => B b ∨ (w2.heap.size ≤ b ∧ b < w3.heap.size), O5, ?_, ?_⟩
          · refine ⟨β3, ⟨fun k c hk => ?_, hc4.inj, hc4.own, fun b hb => ⟨hown b (hgBg b (h1.base b hb).2) (h1.base b hb).1, (h1.base b hb).2⟩, hc4.free, hc4.fresh⟩, fun k b st hk hb => ?_, hc3.prot, hc3.tr.trans ht5, g.stab _ _ _ _ h5 hT hpr, World.putObj_heap_same (lt_of_get hl3), (hblock D hDX hlD).trans h7, hO5l, hown D hDX h9, fun b hb hs => .inl (h10 b hb hs)⟩
            · rcases hc4.row k c hk with q | ⟨b, st, q1, q2, q3, q4⟩
              · exact .inl q
              · exact .inr ⟨b, st, q1, q2, fun hb => q3 (hgBg b hb), q4⟩
            · obtain ⟨_, q, arr, e, hcell⟩ := rowB hc4 k b st hk hb
              by_cases hlt : b < w2.heap.size
              · have hx : X0 b := Classical.byContradiction fun hn => q ⟨hlt, hn⟩
                obtain ⟨k', st', hk', hb'⟩ := hx
                exact .inl (h2 k' b st' hk' hb')
              · have := lt_of_get hcell
                exact .inr ⟨by omega, by omega⟩
          · refine ⟨hT, fun b hb ho hnb => ?_, fun b hb => .inl hb, fun b hb h => h.elim id (fun h => by omega), hc4.own.1, fun b hb => hb.elim (fun h => Nat.lt_of_lt_of_le (hB2 b h) hT.size) (fun h => by rw [hsz3]; exact h.2)⟩
            have hgb : gB b := ⟨hb, fun ⟨k, st, hk, hbk⟩ => hnb (h2 k b st hk hbk)⟩
            have hne : b ≠ l := fun e => hnb (h10 b (by simp only [l] at e; omega) (fun h => by have := hSlt _ h; simp only [l] at e; omega))
            exact ⟨hblock b hgb hne, hown b hgb ho, fun h => h.elim hnb (fun h => by omega)⟩
        refine ⟨_, hrb, wpIn_mono (hVC1 hYr (gr O3 _) β1 O3 a1 _ (hfit _ _) hcn1) fun e a3 w3 hq => ?_⟩
        cases e with
        | normal =>
          obtain ⟨g2, β2, O4, σ2, hle2, hf2, ⟨htm, he⟩, hc2⟩ := hq
          exact fin none a3 w3 (.inl ⟨htm, rfl⟩) ⟨g2, β2, O4, σ2, hle2, hf2, he, hc2⟩
        | ret =>
          obtain ⟨g2, β2, O4, σ2, hle2, hf2, ⟨htm, he⟩, hc2⟩ := hq
          exact fin (some .ret) a3 w3 (.inr ⟨htm, rfl⟩) ⟨g2, β2, O4, σ2, hle2, hf2, he, hc2⟩
        | exit id => obtain ⟨_, _, _, _, _, _, h, _⟩ := hq; exact h.elim
        | _ => exact hq.elim
      | ret => obtain ⟨_, _, _, _, _, _, h, _⟩ := hq; exact h.elim
      | exit id => obtain ⟨_, _, _, _, _, _, h, _⟩ := hq; exact h.elim
      | _ => exact hq.elim
  have hrs : Rs β O w cap vs := ⟨hvs, hv⟩
  have hne0 : ∀ k, Hs 0 k ≠ none → σ.hp k ≠ none := fun k h => by
    cases hh : Hs 0 k with
    | none => exact absurd hh h
    | some c => rw [(h0 k c hh).1]; simp
  have hpend : (rt (m + 1)).pending = some .ret := by rw [hrt, hrec]; dsimp only; rw [if_neg (by omega)]
  have hst : (rt (m + 1)).state = .done := by rw [hrt, hrec]; dsimp only; rw [if_neg (by omega)]
  refine ⟨l, [mark1 D], W1, { target := .fn (.func fid) vs, args := #[.func (.yield l) #[] #[]] }, W1, fid, #[.func (.yield l) #[] #[]] ++ vs, W1, ?_, ?_, ?_, ?_, ?_, ?_⟩
  · rw [← hW1, hrec]; exact run_enterLoop_outer _ _ _ _ _
  · simp only [resolve, hgv]
    simp [go_sem]
  · intro f' _; exact True.intro
  · simp [invoke, go_sem, hit.can _ _]
  · intro h; cases h
  · refine (callsIn_wide (n := 0 - 1)).2 ((hit.run y hyok rfl rfl O1 W1 vs β0 ?_ ?_ ?_).mono ?_)
    · have := hcs β β0 O w vs (fun i hi => if_pos hi) hrs
      exact ⟨this.1, fun i x hx => let ⟨u, p, q⟩ := this.2 i x hx; ⟨u, p, q.mono ht1 (fun _ _ h => h)⟩⟩
    · refine ⟨fun i c hi => ?_, fun i j b st st' hi hj e1 e2 => ?_, hc.hc.own.tr ht1 hbk1, fun b hb => hb.elim, fun i hi => ?_, fun i hi => if_neg (by omega)⟩
      · obtain ⟨hiq, e1, e2⟩ := hH0 i c hi
        have hb0 : β0 i = β (ρ i) := if_pos hiq
        rcases hc.hc.row _ c e1 with ⟨p, rfl⟩ | ⟨b, st, p1, p2, p3, arr, e, p4, p5, p6⟩
        · exact .inl ⟨hb0.trans p, rfl⟩
        · refine .inr ⟨b, st, hb0.trans p1, .inl p2, fun h => h.elim, arr, e, (hg1.block b (lt_of_get p4)).trans p4, p5, fun j x hj => ?_⟩
          obtain ⟨u, r1, r2⟩ := p6 j x hj
          exact ⟨u, r1, .pl _ _ ((r2.plain (plainL_get e2 hj)).mono ht1)⟩
      · have hiq : i < q := Classical.byContradiction fun h => by simp only [β0, if_neg h] at e1; cases e1
        have hjq : j < q := Classical.byContradiction fun h => by simp only [β0, if_neg h] at e2; cases e2
        simp only [β0, if_pos hiq] at e1
        simp only [β0, if_pos hjq] at e2
        have ne : ∀ i, i < q → σ.hp (ρ i) ≠ none := fun i hi h => by
          cases hh : H0 i with
          | none => exact absurd hh (hq0 i hi)
          | some c => rw [(hH0 i c hh).2.1] at h; cases h
        exact hinj i j hiq hjq (hc.hc.inj _ _ b st st' (ne i hiq) (ne j hjq) e1 e2)
      · cases hh : H0 i with
        | none => rfl
        | some c => have := (hH0 i c hh).1; omega
    · refine ⟨β, ⟨fun k c hk => ?_, ?_, hc.hc.own.tr ht1 hbk1, fun b hb => ⟨.inl (hc.hc.base b hb).1, (hc.hc.base b hb).2⟩, ?_, ?_⟩, fun k b st hk hb => ?_, fun k q h => h, ht1, g.stab _ _ _ _ hc.inv ht1 hp1, by rw [hrt0 0 (Nat.zero_le _)]; exact hL1, hD1, .inr (.inr rfl), .inr (.inl rfl), fun b hb hs => ?_⟩
      · rcases hc.hc.row k c (h0 k c hk).1 with q | ⟨b, st, q1, q2, q3, q4⟩
        · exact .inl q
        · exact .inr ⟨b, st, q1, .inl q2, q3, q4.mono ht1 (fun _ _ h => h) (hg1.block b q4.lt)⟩
      · exact fun k k' b st st' h h' => hc.hc.inj k k' b st st' (hne0 k h) (hne0 k' h')
      · intro k hk
        rw [← h0'] at hk
        cases hh : Hs 0 k with
        | none => rfl
        | some c => have := (h0 k c hh).1; rw [hc.hc.free k hk] at this; cases this
      · rw [← h0']; exact hc.hc.fresh
      · obtain ⟨_, _, arr, e, hcell⟩ := rowB hc.hc k b st (hne0 k hk) hb
        have := lt_of_get hcell
        show b < W1.heap.size ∧ _
        refine ⟨by omega, fun hs => ?_⟩
        obtain ⟨i, st', c', hiq, e1, e2, _⟩ := hS b hs
        have := hc.hc.inj k (ρ i) b st st' (hne0 k hk) (by rw [e2]; simp) hb e1
        cases hh : Hs 0 k with
        | none => exact hk hh
        | some c => exact (h0 k c hh).2 i hiq this.symm
      · show b < W1.heap.size ∧ _
        exact ⟨by omega, hs⟩
    · rintro e w3 ⟨⟨u, rfl⟩, B', O3, β', h1, h2, h3, h4, h5, h6, h7, h8, h9, h10⟩
      have hend := run_endLoop (P := E.P) h6 (by rw [hst]; simp)
      rw [hpend] at hend
      obtain ⟨o', hnc, hend⟩ : ∃ o', (∀ arr e fz, o' ≠ Obj.cells arr e fz) ∧ (Instr.endLoop l).run E.P w3 = .ok (some .ret) (w3.putObj l o') := ⟨_, fun _ _ _ h => (by cases h), hend⟩
      refine ⟨some .ret, _, hend, wpIn_ret ?_⟩
      have hnc0 : ∀ (r : Loop) (arr : Array Value) (e : TypeId) (fz : Nat × Nat), Obj.loop r ≠ Obj.cells arr e fz := fun _ _ _ _ h => by cases h
      have hlD : D ≠ l := by simp only [D, l]; omega
      let O4 : Nat → Prop := fun b => O3 b ∧ b ≠ D
      have hto := tr_obj o' h6 (hnc0 _) h8
      have hsh : Tr O3 (w3.putObj l o') O4 (w3.putObj l o') := ⟨Nat.le_refl _, fun b _ ho => ⟨rfl, fun h => ho h.1⟩, fun b arr e fz hb => ⟨arr, fz, hb, rfl⟩⟩
      have ht := hto.trans hsh
      have hpd : Pr g.B0 O3 w3 O4 (w3.putObj l o') :=
        ⟨rfl, rfl, rfl, .of (Nat.le_refl _), fun b hb => World.putObj_heap_other (fun e => by have := hc.b0 b hb; simp only [l] at e; omega), fun b hb ho => ⟨ho, fun e => by have := hc.b0 b hb; simp only [D] at e; omega⟩, fun h => h.tr ht (fun b hb => by simpa using h.1 b hb.1)⟩
      have hhc := hc_obj o' h6 (hnc0 _) h8 h1
      have hDw : (w3.putObj l o').heap[D]? = some (.deferred (some [])) := (World.putObj_heap_other hlD).trans h7
      refine ⟨g, β', O4, { σ with hp := Hs (m + 1), nx := ns (m + 1) }, Le.refl _ _, hf.n rfl, hZ, ⟨?_, fun t av hta => let ⟨u, p, q⟩ := hc.fr t av hta; ⟨u, p, q.mono (h4.trans ht) h3⟩, hc.sz, ⟨fun k c hk => ?_, hhc.inj, hhc.own.tr hsh (fun b hb => hhc.own.1 b hb.1), fun b hb => ⟨⟨(hhc.base b hb).1, fun e => by have := hc.b0 b (h1.base b hb).2; simp only [D] at e; omega⟩, (hhc.base b hb).2⟩, hhc.free, hhc.fresh⟩, g.stab _ _ _ _ h5 ht hpd, fun b hb => ?_, hc.pp, fun k q hq => h3 _ _ (hc.prot k q hq), hc.tr.trans (h4.trans ht)⟩⟩
      · have hd := hc.defers.tr (h4.trans ht)
        obtain ⟨Ds, d1, d2, d3⟩ := hd.ds
        obtain ⟨Ds', d1', _, d3'⟩ := hc.defers.ds
        have hlt : ∀ D' ∈ Ds, D' < w.heap.size := by
          have : Ds = Ds' := by
            have := d1.symm.trans d1'
            exact (List.map_inj_right (fun x y h => by simpa [mark1] using h)).1 this
          subst this
          exact fun D' hD' => lt_of_get (d3' D' hD').2.2
        refine ⟨fun _ => hmark, D :: Ds, by simp [d1], List.nodup_cons.2 ⟨fun h => by have := hlt _ h; simp only [D] at this; omega, d2⟩, fun D' hD' => ?_⟩
        rcases List.mem_cons.1 hD' with e | hD'
        · subst e
          exact ⟨fun h => h.2 rfl, fun h => by have := hc.b0 _ h; simp only [D] at this; omega, hDw⟩
        · exact d3 D' hD'
      · rcases hhc.row k c hk with q | ⟨b, st, q1, q2, q3, q4⟩
        · exact .inl q
        · refine .inr ⟨b, st, q1, ⟨q2, fun e => ?_⟩, q3, q4.mono hsh (fun _ _ h => h) rfl⟩
          obtain ⟨arr, e', hcell, _⟩ := q4
          rw [e, hDw] at hcell
          cases hcell
      · have := hc.b0 b hb
        have := h4.size
        simp
        omega
end Go.Ab

/- Parts of the proof, put together by a program. -/
import Derived.Test.YtpdecefdhkhlnaaGreatDoorRows
import Derived.HandedShaped
import Derived.Shelf.Vars
import Derived.ProofKit
import Derived.LaidMore
import Derived.Lay
import Derived.OpenShut
import Derived.KernelRfl
import Derived.Test.YtpdecefdhkhlnaaGreatDoorQak
set_option linter.unusedVariables false
set_option linter.unusedSimpArgs false
set_option linter.unusedSectionVars false
set_option maxRecDepth 100000
namespace Go.Proofs.YtpdecefdhkhlnaaGreatDoor
open Go.ChangeShapes Go.WideShapes Go.ChangeAt Go.RowKit Go.Ab
abbrev laid7 : List (String × DataW Unit) := [("math/bits.deBruijn32tab", Rows.laid_math_bits_deBruijn32tab), ("math/bits.deBruijn64tab", Rows.laid_math_bits_deBruijn64tab), ("internal/strconv.uint64pow10", Rows.laid_internal_strconv_uint64pow10), ("unicode/utf8.acceptRanges", Rows.laid_unicode_utf8_acceptRanges), ("strconv.ErrRange", Rows.laid_strconv_ErrRange), ("strconv.ErrSyntax", Rows.laid_strconv_ErrSyntax), ("unicode/utf8.first", Rows.laid_unicode_utf8_first)]
theorem door_met7 (os : Os) (args : Array Value) : laidMetH Tryz.prog laid7 ((World.laidAll Tryz.prog os laid7).forCall (fun _ _ => 0) ⟨#[], args, []⟩).memory :=
  laidMet_laidAll args (by kernel_rfl) (by kernel_rfl)
theorem returnsInHanded_of_change_both {H : Type} {enc : TypeId × Value → H} {a : Assume} {C : Checked} {os : Os} {f : FuncId} {fn : Func} {s : ChangeSpec} {conds : List PathCond} {apart fresh handsOn again : Bool} {X : World → Array Value → Prop}
    (hX : ∀ (w w' : World) (args : Array Value), w.heap = w'.heap → X w args → X w' args)
    (own : ownKnob C.prog.godebug = none) (started : os.Started) (noInit : C.prog.inits.idxOf? f = none) (hfn : C.prog.funcs[f]? = some fn)
    (witness : ∃ (w : World) (tape : Tape) (i : Input), w.os = os ∧ (w.forCall tape i).Shaped C.prog ∧ i.vars = [] ∧ Input.okWide C.prog (w.forCall tape i) .any w.heap.size f i ∧
      ((s.pre enc C.prog fn conds apart (w.forCall tape i).memory i.args ∧ X (w.forCall tape i).memory i.args) ∧ sizedMet enc C.prog fn (OpenSpec.ofChange s) apart (w.forCall tape i).memory i.args) ∧ a.holds C.prog (lone (Frame.enter C.prog f i.args .normal) [] (w.forCall tape i)))
    (contract : ∀ (W : World) (base : Nat) (args : Array Value) (ds gs : List (DataW H)) (before : List MemPlace),
      (∀ (j : Nat) t v, fn.params[j]? = some t → args[j]? = some v → Value.okWide C.prog W .any base t v) →
      DataW.Whole enc C.prog fn.params.toList s.vars apart W args.toList ds gs before →
      X W args → W.ShapedOpen C.prog →
      Calls C.prog f args W fun e W' => ∃ v, e = .returned v ∧ s.post enc C.prog fn apart fresh handsOn again W args v W') :
    ReturnsInHanded a C os f .any (fun w args => (s.pre enc C.prog fn conds apart w args ∧ X w args) ∧ sizedMet enc C.prog fn (OpenSpec.ofChange s) apart w args) (s.post enc C.prog fn apart fresh handsOn again) := by
  refine returnsInHanded_of_calls own started noInit witness ?_
  intro w tape i _ hsh _ hok hpre hholds
  obtain ⟨_, _, _, fn', hfn', _, _, _, _, hval⟩ := hok
  have e : fn' = fn := Option.some.inj (hfn'.symm.trans hfn)
  subst e
  obtain ⟨⟨⟨ds, gs, before, hw, hc⟩, hx⟩, hz⟩ := hpre
  have hw' := DataW.Whole.of_heap (w' := w.forCall tape i) (by rfl) hw
  refine (contract (w.forCall tape i) w.heap.size i.args ds gs before hval hw' (hX _ _ _ (by rfl) hx) hsh).mono fun e W' ⟨v, he, hp⟩ => ?_
  subst he
  exact ChangeSpec.post_blind hp
theorem laid_at {P : Program} {w : World} : ∀ {l : List (String × DataW Unit)} {ps : List MemPlace}, DataW.LaidVars P w l ps → ∀ n d, (n, d) ∈ l →
    ∃ g t cs fuel p, P.globalNamed n = some g ∧ (P.globals[g]?).map (·.type) = some t ∧ w.var? P n = some cs ∧ DataW.trod (fun _ => ()) P w 0 (fun _ => true) false fuel t cs.toList = some (d, p)
  | [], _, _, _, _, hm => by cases hm
  | (n', d') :: r, ps, h, n, d, hm => by
    obtain ⟨g, t, cs, fuel, p, q, h1, h2, h3, h4, h5, _⟩ := h
    rcases List.mem_cons.1 hm with e | e
    · cases e
      exact ⟨g, t, cs, fuel, p, h1, h2, h3, h4⟩
    · exact laid_at h5 n d e
theorem var_is {P : Program} {w : World} {n : String} {g : Nat} {cs : Array Value} (hg : P.globalNamed n = some g) (hv : w.var? P n = some cs) : VarIs P NoO w n cs := by
  unfold World.var? at hv
  rw [hg, Option.bind_some] at hv
  cases hh : w.heap[g]? with
  | none => rw [hh] at hv; cases hv
  | some o =>
    rw [hh] at hv
    cases o with
    | cells c e fz =>
      simp only [Option.some.injEq] at hv
      subst hv
      exact ⟨g, e, fz, hg, fun h => h.elim, hh⟩
    | _ => cases hv
theorem iface_cells {P : Program} {w : World} {fuel : Nat} {t : TypeId} {q : _} {cs : List Value} {nm : String} {D : DataW Unit} {p : List MemPlace} (ht : P.underlying t = some (.interface q))
    (h : DataW.trod (fun _ => ()) P w 0 (fun _ => true) false fuel t cs = some (.iface nm D, p)) : ∃ tp v, cs = [.iface tp v] := by
  cases fuel with
  | zero => simp [DataW.trod] at h
  | succ fuel =>
    unfold DataW.trod at h
    rw [ht] at h
    match cs, h with
    | [.iface tp v], _ => exact ⟨tp, v, rfl⟩
    | [.nilIface], h => simp at h
theorem gMax : Tryz.prog.globalNamed "internal/bytealg.MaxLen" = some 2 := by kernel_rfl
theorem gErrS : Tryz.prog.globalNamed "strconv.ErrSyntax" = some 3 := by kernel_rfl
theorem gErrR : Tryz.prog.globalNamed "strconv.ErrRange" = some 4 := by kernel_rfl
theorem gPow : Tryz.prog.globalNamed "internal/strconv.uint64pow10" = some 5 := by kernel_rfl
theorem gtErrS : (Tryz.prog.globals[3]?).map (·.type) = some 110 := by kernel_rfl
theorem gtErrR : (Tryz.prog.globals[4]?).map (·.type) = some 110 := by kernel_rfl
theorem gtPow : (Tryz.prog.globals[5]?).map (·.type) = some 184 := by kernel_rfl
theorem g0Max : ((begin Tryz.prog (fun _ _ => 0) default).world.heap[2]?).bind Obj.row? = some (#[.int .i64 0], 3) := by kernel_rfl
theorem gszMax : 2 < Tryz.prog.globals.size := of_decide_eq_true (by kernel_rfl)
theorem gbMax : Tryz.prog.buildable 3 = true := by kernel_rfl
theorem gcMax : Tryz.prog.cellTypes Tryz.prog.depth 3 = some [3] := by kernel_rfl
theorem powData : (Rows.laid_internal_strconv_uint64pow10 : DataW Unit) = Lib.tabData .u64 Lib.pow10Tab := by kernel_rfl
theorem cells158 : Tryz.prog.cellsOf 158 = 1 := by kernel_rfl
theorem cells184 : Tryz.prog.cellsOf 184 = 20 := by kernel_rfl
theorem laid7_met {w : World} (hL : laidMetH Tryz.prog laid7 w) : laidMet Tryz.prog laid7 w := hL
theorem inv_of {w : World} (hL : laidMetH Tryz.prog laid7 w) (hS : w.ShapedOpen Tryz.prog) : invV NoO w := by
  obtain ⟨ps, hV, _⟩ := laid7_met hL
  refine ⟨?_, ?_, ?_, ?_⟩
  · obtain ⟨g, t, cs, fuel, p, h1, h2, h3, h4⟩ := laid_at hV "strconv.ErrSyntax" Rows.laid_strconv_ErrSyntax (.tail _ (.tail _ (.tail _ (.tail _ (.tail _ (.head _))))))
    obtain rfl := Option.some.inj (gErrS.symm.trans h1)
    obtain rfl := Option.some.inj (gtErrS.symm.trans h2)
    obtain ⟨tp, v, e⟩ := iface_cells Tryz.underlying110 h4
    exact ⟨tp, v, var_is gErrS (by rw [h3]; exact congrArg some (Array.toList_inj.1 e))⟩
  · obtain ⟨g, t, cs, fuel, p, h1, h2, h3, h4⟩ := laid_at hV "strconv.ErrRange" Rows.laid_strconv_ErrRange (.tail _ (.tail _ (.tail _ (.tail _ (.head _)))))
    obtain rfl := Option.some.inj (gErrR.symm.trans h1)
    obtain rfl := Option.some.inj (gtErrR.symm.trans h2)
    obtain ⟨tp, v, e⟩ := iface_cells Tryz.underlying110 h4
    exact ⟨tp, v, var_is gErrR (by rw [h3]; exact congrArg some (Array.toList_inj.1 e))⟩
  · obtain ⟨g, t, cs, fuel, p, h1, h2, h3, h4⟩ := laid_at hV "internal/strconv.uint64pow10" Rows.laid_internal_strconv_uint64pow10 (.tail _ (.tail _ (.head _)))
    obtain rfl := Option.some.inj (gPow.symm.trans h1)
    obtain rfl := Option.some.inj (gtPow.symm.trans h2)
    rw [powData] at h4
    have e := Lib.cells_of_tab Tryz.underlying184 Tryz.underlying158 cells158 cells184 h4
    refine var_is gPow ?_
    rw [h3, ← e]
  · obtain ⟨m, hm⟩ := cell_of_shapedOpen_int hS gszMax g0Max rfl gbMax gcMax Tryz.underlying3
    obtain ⟨cs, hh, hs, _⟩ := hS.1 2 _ _ gszMax g0Max
    have hs1 : cs.size = 1 := hs
    have : cs = #[.int .i64 m] := by
      have h1 : 0 < cs.size := by omega
      have h2 : w.cell? ⟨2, 0, none⟩ = some cs[0] := by simp [World.cell?, hh, h1]
      rw [h2] at hm
      have h3 := Option.some.inj hm
      refine Array.ext (by simpa using hs1) fun i hi hj => ?_
      have : i = 0 := by simp at hj; omega
      subst this
      simpa using h3
    rw [this] at hh
    exact ⟨m, 2, _, _, gMax, fun h => h.elim, hh⟩
end Go.Proofs.YtpdecefdhkhlnaaGreatDoor

/- The abstract machine, part 23: a statement's arguments, as data; what is left to say when the call has returned true. -/
import Derived.Test.YtbobgnkohnbonaaAbFz
import Derived.ChangeSlices
import Derived.WideShapes
import Derived.Carry
import Derived.ProofKit
set_option linter.unusedSimpArgs false
set_option linter.unusedVariables false
namespace Go.Ab
open Go.RowKit Go.ChangeShapes Go.WideShapes

abbrev NoO : Nat → Prop := fun _ => False

section
variable {H : Type} {enc : TypeId × Value → H} {P : Program} {w : World} {base : Nat} {spare : Nat → Bool} {held : Bool}

theorem has_lt {r : Reach} {b : Nat} {a : Addr} {e : TypeId} {n : Nat} (h : w.has P r b a e n) : a.spot = none ∧ a.block < w.heap.size := by
  obtain ⟨_, h1, row, cells, h2, _⟩ := h
  refine ⟨h1, ?_⟩
  rcases Nat.lt_or_ge a.block w.heap.size with h' | h'
  · exact h'
  · unfold World.shape? at h2
    rw [Array.getElem?_eq_none h'] at h2
    cases h2

/-- A slice of numbers. -/
theorem open_isl {t e : TypeId} {v : Value} {d : DataW H} {ps : List MemPlace} (ht : P.underlying t = some (.slice e)) (he : P.underlying e = some (.int .i64)) (hc : P.cellsOf e = 1)
    (hv : Value.okWide P w .any base t v) (h : DataW.Trod enc P w 0 spare held t v d ps) : ∃ xs : List Int, Rp NoO w (isl xs) v ∧ xs.length ≤ maxLen ∧ I64L xs := by
  obtain ⟨a0, len, cap, rfl⟩ := okWide_slice ht hv
  obtain ⟨fuel, hf⟩ := h
  rcases open_ints ht he hc hf with ⟨hcs, _⟩ | ⟨a, len', cap', zs, hcs, _, hl, hm, hz, _, hcell, hwz⟩
  · simp [Value.cells] at hcs
    obtain ⟨rfl, rfl, rfl⟩ := hcs
    exact ⟨[], .nil 1, by simp, fun x hx => by simp at hx⟩
  · simp [Value.cells] at hcs
    obtain ⟨rfl, rfl, rfl⟩ := hcs
    have hh : w.has P .any base a e cap := by
      simp only [Value.okWide, ht, Cell.okWide, Cell.ok] at hv
      exact hv.2.2
    obtain ⟨hs, hb⟩ := has_lt hh
    obtain ⟨b, off, sp⟩ := a
    dsimp only at hs hb
    subst hs
    have hlen : len ≤ zs.length := by rw [hz]; split <;> omega
    refine ⟨zs.take len, ?_, by rw [List.length_take]; omega, fun x hx => ?_⟩
    · have hn : (zs.take len).length = len := by rw [List.length_take]; omega
      unfold isl
      rw [hn]
      refine Rp.mk_sl (fun h => h) hb hl (by rw [ints_length, hn]; omega) fun i c hi => ?_
      rw [ints_get] at hi
      cases hq : (zs.take len)[i]? with
      | none => simp [hq] at hi
      | some z =>
        rw [hq, Option.map_some, Option.some.injEq] at hi
        have hil : i < zs.length := by
          have := (List.getElem?_eq_some_iff.1 hq).1
          simp at this; omega
        have hil2 : i < len := by
          have := (List.getElem?_eq_some_iff.1 hq).1
          simp at this; omega
        have h1 := hcell i hil
        rw [List.getElem?_take_of_lt hil2] at hq
        have e1 : zs.getD i 0 = z := by rw [List.getD_eq_getElem?_getD, hq]; rfl
        rw [e1, addr_add] at h1
        exact ⟨_, h1, hi ▸ .v _⟩
    · have := hwz x (List.mem_of_mem_take hx)
      simpa [Lit.wf, IntKind.min, IntKind.max, IntKind.signed, IntKind.bits, I64] using this

/-- A struct of numbers. -/
theorem open_recI {t : TypeId} {fs : Array Field} {v : Value} {d : DataW H} {ps : List MemPlace} (ht : P.underlying t = some (.struct fs)) (hsz : P.cellsOf t = fs.size)
    (hfs : ∀ (i : Nat) (f : Field), fs[i]? = some f → f.offset = i ∧ P.underlying f.type = some (.int .i64) ∧ P.cellsOf f.type = 1)
    (hv : Value.okWide P w .any base t v) (h : DataW.Trod enc P w 0 spare held t v d ps) : ∃ zs : List Int, zs.length = fs.size ∧ Rp NoO w (.ag (ints zs)) v ∧ I64L zs := by
  obtain ⟨cs, rfl, hcsz⟩ := okWide_struct ht hv
  obtain ⟨fuel, hf⟩ := h
  obtain ⟨xs, n, _, _, hlen, hx, hget⟩ := DataW.trod_struct ht hf
  have hsize : cs.size = fs.size := by rw [hcsz, hsz]
  have each : ∀ i, i < fs.size → ∃ z : Int, cs[i]? = some (.int .i64 z) ∧ (Lit.int .i64 z).wf = true := by
    intro i hi
    obtain ⟨h1, h2, h3⟩ := hfs i fs[i] (Array.getElem?_eq_getElem hi)
    have hg := hget i fs[i] (Array.getElem?_eq_getElem hi)
    have hxi : i < xs.length := by rw [hx]; exact hi
    rw [List.getElem?_eq_getElem hxi, h1, h3] at hg
    obtain ⟨z, hz, _, hw⟩ := DataW.trod_int h2 hg
    refine ⟨z, ?_, hw⟩
    have : ((Value.agg cs).cells.toList.drop i).take 1 = [cs[i]'(by omega)] := by
      show (cs.toList.drop i).take 1 = _
      rw [List.drop_eq_getElem_cons (by simp; omega)]
      simp
    rw [this] at hz
    simp only [List.cons.injEq, and_true] at hz
    rw [Array.getElem?_eq_getElem (by omega), hz]
  have hch : ∃ f : Nat → Int, ∀ i, i < fs.size → cs[i]? = some (.int .i64 (f i)) ∧ (Lit.int .i64 (f i)).wf = true := by
    refine ⟨fun i => if h : i < fs.size then (each i h).choose else 0, fun i hi => ?_⟩
    simp only [dif_pos hi]
    exact (each i hi).choose_spec
  obtain ⟨f, hf⟩ := hch
  refine ⟨(List.range fs.size).map f, by simp, ?_, fun x hx => ?_⟩
  · refine .ag _ _ (fun i => .int .i64 (f i)) (by simp [ints_length, hsize]) (fun i c hi => ?_) (fun i c hi => ?_)
    · have hil : i < fs.size := by have := (List.getElem?_eq_some_iff.1 hi).1; simpa [ints_length] using this
      exact (hf i hil).1
    · have hil : i < fs.size := by have := (List.getElem?_eq_some_iff.1 hi).1; simpa [ints_length] using this
      rw [ints_get] at hi
      simp [hil] at hi
      exact hi ▸ .v _
  · simp only [List.mem_map, List.mem_range] at hx
    obtain ⟨i, hi, rfl⟩ := hx
    have := (hf i hi).2
    simpa [Lit.wf, IntKind.min, IntKind.max, IntKind.signed, IntKind.bits, I64] using this

/-- Arguments one behind the other. -/
theorem rps_nil : Rps NoO w [] #[] := ⟨rfl, fun i a h => by simp at h⟩
theorem rps_cons' {a : AV} {v : Value} {as : List AV} {vs : List Value} (h : Rp NoO w a v) (hs : Rps NoO w as vs.toArray) : Rps NoO w (a :: as) (v :: vs).toArray := by
  refine ⟨by have := hs.1; simp at this ⊢; exact this, fun i b hb => ?_⟩
  cases i with
  | zero => simp at hb; subst hb; exact ⟨v, rfl, h⟩
  | succ i => simpa using hs.2 i b (by simpa using hb)

/-- All arguments read as they did. -/
theorem trodAll_stay (hl : laidOutB P = true) {w' : World} (hg : Gr w w') : ∀ {ts : List TypeId} {vs : List Value} {ds : List (DataW H)} {ps : List MemPlace}, (∀ t ∈ ts, P.readableRec t = true ∧ t < P.types.size) →
    DataW.TrodAll enc P w 0 (fun _ => true) true ts vs ds ps → (∀ x ∈ ps, x.block < w.heap.size) → DataW.TrodAll enc P w' 0 (fun b => decide (b < w.heap.size)) true ts vs ds ps
  | [], [], [], _, _, h, _ => h
  | t :: ts, v :: vs, d :: ds, ps, hT, ⟨p, q, h1, h2, e⟩, hlt =>
    ⟨p, q, Below.trod hl (hT t (by simp)).1 (hT t (by simp)).2 h1 hg (fun x hx => hlt x (by rw [e]; exact List.mem_append_left _ hx)), trodAll_stay hl hg (fun t ht => hT t (by simp [ht])) h2 (fun x hx => hlt x (by rw [e]; exact List.mem_append_right _ hx)), e⟩

/-- What a law is to say of a call that returned true and changed nothing. -/
theorem post_true {fn : Func} {s : ChangeSpec} {args : Array Value} {ds gs : List (DataW H)} {before : List MemPlace} {w' : World} (hl : laidOutB P = true) {tb : TypeId} (hb : P.underlying tb = some .bool) (hrt : fn.resultTypes.toList = [tb])
    (hT : ∀ t ∈ fn.params.toList, P.readableRec t = true ∧ t < P.types.size) (hvs : s.vars = []) (hgs : gs = []) (hsp : s.fn H (ds ++ gs) = { results := [.lit (.bool true)], args := ds })
    (hW : DataW.Whole enc P fn.params.toList s.vars false w args.toList ds gs before) (hg : Gr w w') : s.post enc P fn false true false false w args (.bool true) w' := by
  have hW' := hW
  obtain ⟨p, q, hA, hV, rfl, _, _⟩ := hW
  have hq : q = [] := by
    subst hgs
    rw [hvs] at hV
    exact hV
  subst hq
  have hlt : ∀ x ∈ p, x.block < w.heap.size := fun x hx => by simpa using hW'.lt x (by simp [hx])
  have hargs := trodAll_stay hl hg hT hA hlt
  have hrs : fn.resultTypes.size = 1 := by rw [← Array.length_toList, hrt]; rfl
  refine ⟨ds, gs, p ++ [], [], p, [], hW', ?_, ?_, ?_, hg.frame _, fun h => by cases h⟩
  · rw [hsp, hrt, hrs]
    exact trodAll_mk1 (shut_bool hb true)
  · rw [hsp]; exact hargs
  · rw [hsp, hvs]
    rfl
end
end Go.Ab

/- Arguments that are arrays of numbers. -/
import Derived.Test.YtbobgnkohnbonaaH0
set_option linter.unusedVariables false
set_option linter.unusedSimpArgs false
set_option maxRecDepth 100000
namespace Go.Proofs.Ytbobgnkohnbonaa
open Go.ChangeShapes Go.WideShapes Go.ChangeAt Go.RowKit Go.Ab
theorem okWide_array' {P : Program} {w : World} {r : Reach} {base n : Nat} {t e : TypeId} {v : Value} (ht : P.underlying t = some (.array n e)) (h : Value.okWide P w r base t v) : ∃ cs, v = .agg cs ∧ cs.size = P.cellsOf t := by
  simp only [Value.okWide, ht] at h
  obtain ⟨cs, h1, h2, _⟩ := h
  exact ⟨cs, h1, h2⟩
theorem open_arrI {P : Program} {H : Type} {enc : TypeId × Value → H} {w : World} {base n : Nat} {t e : TypeId} {v : Value} {d : DataW H} {ps : List MemPlace} (ht : P.underlying t = some (.array n e)) (hsz : P.cellsOf t = n) (he : P.underlying e = some (.int .i64)) (hce : P.cellsOf e = 1)
    (hv : Value.okWide P w .any base t v) (h : DataW.Trod enc P w 0 (fun _ => true) true t v d ps) : ∃ zs : List Int, zs.length = n ∧ Rp NoO w (.ag (ints zs)) v ∧ I64L zs := by
  obtain ⟨cs, rfl, hcsz⟩ := okWide_array' ht hv
  obtain ⟨fuel, hf⟩ := h
  obtain ⟨xs, m, _, _, hlen, hx, hget⟩ := DataW.trod_array ht hf
  have hsize : cs.size = n := by rw [hcsz, hsz]
  have each : ∀ i, i < n → ∃ z : Int, cs[i]? = some (.int .i64 z) ∧ (Lit.int .i64 z).wf = true := by
    intro i hi
    have hg := hget i hi
    have hxi : i < xs.length := by rw [hx]; exact hi
    rw [List.getElem?_eq_getElem hxi, hce, Nat.mul_one] at hg
    obtain ⟨z, hz, _, hw⟩ := DataW.trod_int he hg
    refine ⟨z, ?_, hw⟩
    have : ((Value.agg cs).cells.toList.drop i).take 1 = [cs[i]'(by omega)] := by
      show (cs.toList.drop i).take 1 = _
      rw [List.drop_eq_getElem_cons (by simp; omega)]
      simp
    rw [this] at hz
    simp only [List.cons.injEq, and_true] at hz
    rw [Array.getElem?_eq_getElem (by omega), hz]
  have hch : ∃ f : Nat → Int, ∀ i, i < n → cs[i]? = some (.int .i64 (f i)) ∧ (Lit.int .i64 (f i)).wf = true := by
    refine ⟨fun i => if h : i < n then (each i h).choose else 0, fun i hi => ?_⟩
    simp only [dif_pos hi]
    exact (each i hi).choose_spec
  obtain ⟨f, hf⟩ := hch
  refine ⟨(List.range n).map f, by simp, ?_, fun x hx => ?_⟩
  · refine .ag _ _ (fun i => .int .i64 (f i)) (by simp [ints_length, hsize]) (fun i c hi => ?_) (fun i c hi => ?_)
    · have hil : i < n := by have := (List.getElem?_eq_some_iff.1 hi).1; simpa [ints_length] using this
      exact (hf i hil).1
    · have hil : i < n := by have := (List.getElem?_eq_some_iff.1 hi).1; simpa [ints_length] using this
      rw [ints_get] at hi
      simp [hil] at hi
      exact hi ▸ .v _
  · simp only [List.mem_map, List.mem_range] at hx
    obtain ⟨i, hi, rfl⟩ := hx
    have := (hf i hi).2
    simpa [Lit.wf, IntKind.min, IntKind.max, IntKind.signed, IntKind.bits, I64] using this
end Go.Proofs.Ytbobgnkohnbonaa
set_option linter.unusedVariables false
set_option linter.unusedSimpArgs false
set_option maxRecDepth 100000
namespace Go.Proofs.Ytbobgnkohnbonaa
open Go.ChangeShapes Go.WideShapes Go.ChangeAt Go.RowKit Go.Ab
theorem cells77 : Try.prog.cellsOf 77 = 8 := by kernel_rfl
theorem open_eight {H : Type} {enc : TypeId × Value → H} {w : World} {base : Nat} {v : Value} {d : DataW H} {ps : List MemPlace} (hv : Value.okWide Try.prog w .any base 77 v) (h : DataW.Trod enc Try.prog w 0 (fun _ => true) true 77 v d ps) :
    ∃ zs : List Int, Rp NoO w (.ag (ints zs)) v ∧ zs.length = 8 ∧ I64L zs := by
  obtain ⟨zs, hz, hr, hI⟩ := open_arrI Try.underlying77 cells77 Try.underlying3 cells3 hv h
  exact ⟨zs, hr, hz, hI⟩
end Go.Proofs.Ytbobgnkohnbonaa

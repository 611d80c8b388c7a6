/- Arguments that are marks. -/
import Derived.Test.YtbobgnkohnbonaaH0
import Derived.Test.YtbobgnkohnbonaaS05w
set_option linter.unusedVariables false
set_option linter.unusedSimpArgs false
set_option maxRecDepth 100000
namespace Go.Proofs.Ytbobgnkohnbonaa
open Go.ChangeShapes Go.WideShapes Go.ChangeAt Go.RowKit Go.Ab

theorem open_marks {H : Type} {enc : TypeId × Value → H} {w : World} {base : Nat} {v : Value} {d : DataW H} {ps : List MemPlace} (hv : Value.okWide Try.prog w .any base 23 v) (h : DataW.Trod enc Try.prog w 0 (fun _ => true) true 23 v d ps) :
    ∃ ms : List Mk, Rp NoO w (.sl 2 ms.length (ints (flatM ms))) v ∧ True := by
  obtain ⟨a0, len, cap, rfl⟩ := okWide_slice Try.underlying23 hv
  obtain ⟨fuel, hf⟩ := h
  rcases DataW.trod_slice Try.underlying23 hf with ⟨hcs, _⟩ | ⟨a, len', cap', elems, rest, n, _, hcs, _, _, hl, hm, hlen, hel, _, _⟩
  · simp [Value.cells] at hcs
    obtain ⟨rfl, rfl, rfl⟩ := hcs
    exact ⟨[], .nil 2, trivial⟩
  · simp [Value.cells] at hcs
    obtain ⟨rfl, rfl, rfl⟩ := hcs
    have hh : w.has Try.prog .any base a 58 (cap * Try.prog.cellsOf 58) ∨ w.has Try.prog .any base a 58 cap := by
      simp only [Value.okWide, Try.underlying23, Cell.okWide, Cell.ok] at hv
      first
      | exact .inl hv.2.2
      | exact .inr hv.2.2
    obtain ⟨hs, hb⟩ : a.spot = none ∧ a.block < w.heap.size := hh.elim has_lt has_lt
    obtain ⟨b, off, sp⟩ := a
    dsimp only at hs hb
    subst hs
    have each : ∀ i, i < len → ∃ lo hi : Int, w.cell? ⟨b, off + i * 2, none⟩ = some (.int .i64 lo) ∧ w.cell? ⟨b, off + (i * 2 + 1), none⟩ = some (.int .i64 hi) := fun i hi => by
      have h1 := hel i hi
      rw [cells58, List.getElem?_eq_getElem (by omega), Option.bind_eq_some_iff] at h1
      obtain ⟨cs', hc', ht⟩ := h1
      obtain ⟨xs, n', _, _, hl2, hx, hget⟩ := DataW.trod_struct Try.underlying58 ht
      rw [cells58] at hl2
      obtain ⟨u0, u1, rfl⟩ : ∃ u0 u1, cs' = [u0, u1] := by
        match cs', hl2 with
        | [u0, u1], _ => exact ⟨u0, u1, rfl⟩
      have hx2 : xs.length = 2 := hx
      obtain ⟨y0, y1, rfl⟩ : ∃ y0 y1, xs = [y0, y1] := by
        match xs, hx2 with
        | [y0, y1], _ => exact ⟨y0, y1, rfl⟩
      have g0 : DataW.trod enc Try.prog w 0 (fun _ => true) true n' 3 [u0] = some y0 := hget 0 _ rfl
      have g1 : DataW.trod enc Try.prog w 0 (fun _ => true) true n' 3 [u1] = some y1 := hget 1 _ rfl
      obtain ⟨lo, e0, _, _⟩ := DataW.trod_int Try.underlying3 g0
      obtain ⟨hi', e1, _, _⟩ := DataW.trod_int Try.underlying3 g1
      simp only [List.cons.injEq, and_true] at e0 e1
      subst e0; subst e1
      have c0 := (World.cells?_some hc').2.2 0 (by simp)
      have c1 := (World.cells?_some hc').2.2 1 (by simp)
      rw [addr_add, addr_add] at c0 c1
      refine ⟨lo, hi', ?_, ?_⟩
      · simpa using c0
      · simpa [Nat.add_assoc] using c1
    have hch : ∃ f g : Nat → Int, ∀ i, i < len → w.cell? ⟨b, off + i * 2, none⟩ = some (.int .i64 (f i)) ∧ w.cell? ⟨b, off + (i * 2 + 1), none⟩ = some (.int .i64 (g i)) := by
      refine ⟨fun i => if h : i < len then (each i h).choose else 0, fun i => if h : i < len then (each i h).choose_spec.choose else 0, fun i hi => ?_⟩
      simp only [dif_pos hi]
      exact (each i hi).choose_spec.choose_spec
    obtain ⟨f, g, hfg⟩ := hch
    have hml : ((List.range len).map fun i => (f i, g i)).length = len := by simp
    refine ⟨(List.range len).map fun i => (f i, g i), ?_, trivial⟩
    rw [hml]
    have hL := flatM_length ((List.range len).map fun i => (f i, g i))
    rw [hml] at hL
    refine Rp.mk_sl (fun h => h) hb hl (by rw [ints_length, hL]) fun i c hi => ?_
    have hil : i < len * 2 := by
      have := (List.getElem?_eq_some_iff.1 hi).1
      rw [ints_length, hL] at this
      exact this
    have hq : i / 2 < ((List.range len).map fun i => (f i, g i)).length := by rw [hml]; omega
    have hgi := gi_flatM hq
    have hfe : ((List.range len).map fun i => (f i, g i))[i / 2] = (f (i / 2), g (i / 2)) := by simp
    rw [hfe] at hgi
    rw [ints_atn (by rw [hL]; exact hil)] at hi
    have hc := hfg (i / 2) (by omega)
    rcases Nat.mod_two_eq_zero_or_one i with hm2 | hm2
    · have e : i / 2 * 2 = i := by omega
      rw [e] at hgi hc
      rw [hgi.1] at hi
      exact ⟨_, hc.1, by cases hi; exact .v _⟩
    · have e : i / 2 * 2 + 1 = i := by omega
      rw [e] at hgi hc
      rw [hgi.2] at hi
      exact ⟨_, hc.2, by cases hi; exact .v _⟩
end Go.Proofs.Ytbobgnkohnbonaa

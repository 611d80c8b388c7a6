/- Arguments that are mends. -/
import Derived.Test.YtbobgnkohnbonaaH0
set_option linter.unusedVariables false
set_option linter.unusedSimpArgs false
set_option maxRecDepth 100000
namespace Go.Proofs.Ytbobgnkohnbonaa
open Go.ChangeShapes Go.WideShapes Go.ChangeAt Go.RowKit Go.Ab

theorem cell_at {w : World} {a : Addr} {v : Value} (h : w.cell? a = some v) : a.spot = none ∧ a.block < w.heap.size := by
  unfold World.cell? at h
  refine ⟨?_, ?_⟩
  · split at h
    · cases hs : a.spot with
      | none => rfl
      | some s => rw [hs] at h; simp at h
    · cases h
  · rcases Nat.lt_or_ge a.block w.heap.size with h' | h'
    · exact h'
    · rw [Array.getElem?_eq_none h'] at h; cases h
/-- A slice of numbers in a cell of memory. -/
theorem open_islH {P : Program} {H : Type} {enc : TypeId × Value → H} {w : World} {fuel : Nat} {held : Bool} {t e : TypeId} {v : Value} {x : DataW H × List MemPlace} (ht : P.underlying t = some (.slice e)) (he : P.underlying e = some (.int .i64)) (hc : P.cellsOf e = 1)
    (hf : DataW.trod enc P w 0 (fun _ => true) held fuel t [v] = some x) : ∃ xs : List Int, Rp NoO w (isl xs) v := by
  rcases open_ints ht he hc hf with ⟨hcs, _⟩ | ⟨a, len, cap, zs, hcs, _, hl, hm, hz, _, hcell, hwz⟩
  · simp only [List.cons.injEq, and_true] at hcs
    subst hcs
    exact ⟨[], .nla 1 none⟩
  · simp only [List.cons.injEq, and_true] at hcs
    subst hcs
    have hz' : zs.length = cap := by simpa using hz
    by_cases hcap : cap = 0
    · subst hcap
      obtain rfl : len = 0 := by omega
      exact ⟨[], .nla 1 (some a)⟩
    · have h0 := hcell 0 (by omega)
      obtain ⟨hs, hb⟩ := cell_at h0
      obtain ⟨b, off, sp⟩ := a
      have hs' : sp = none := hs
      have hb' : b < w.heap.size := hb
      subst hs'
      have hn : (zs.take len).length = len := by rw [List.length_take]; omega
      refine ⟨zs.take len, ?_⟩
      unfold isl
      rw [hn]
      refine Rp.mk_sl (fun h => h) hb' hl (by rw [ints_length, hn]; omega) fun i c hi => ?_
      rw [ints_get] at hi
      cases hq : (zs.take len)[i]? with
      | none => simp [hq] at hi
      | some z =>
        rw [hq, Option.map_some, Option.some.injEq] at hi
        have hil2 : i < len := by
          have := (List.getElem?_eq_some_iff.1 hq).1
          simp at this; omega
        have h1 := hcell i (by omega)
        rw [List.getElem?_take_of_lt hil2] at hq
        have e1 : zs.getD i 0 = z := by rw [List.getD_eq_getElem?_getD, hq]; rfl
        rw [e1, addr_add] at h1
        exact ⟨_, h1, hi ▸ .v _⟩

theorem cells86 : Try.prog.cellsOf 86 = 3 := by kernel_rfl
theorem open_mends {H : Type} {enc : TypeId × Value → H} {w : World} {base : Nat} {v : Value} {d : DataW H} {ps : List MemPlace} (hv : Value.okWide Try.prog w .any base 32 v) (h : DataW.Trod enc Try.prog w 0 (fun _ => true) true 32 v d ps) :
    ∃ (n : Nat) (C : List AV) (lo dn : Nat → Int) (nm : Nat → List Int), Rp NoO w (.sl 3 n C) v ∧ C.length = n * 3 ∧ ∀ i, i < n → C[i * 3]? = some (iv (lo i)) ∧ C[i * 3 + 1]? = some (iv (dn i)) ∧ C[i * 3 + 2]? = some (isl (nm i)) := by
  obtain ⟨a0, len, cap, rfl⟩ := okWide_slice Try.underlying32 hv
  obtain ⟨fuel, hf⟩ := h
  rcases DataW.trod_slice Try.underlying32 hf with ⟨hcs, _⟩ | ⟨a, len', cap', elems, rest, n, _, hcs, _, _, hl, hm, hlen, hel, _, _⟩
  · simp [Value.cells] at hcs
    obtain ⟨rfl, rfl, rfl⟩ := hcs
    exact ⟨0, [], fun _ => 0, fun _ => 0, fun _ => [], .nla 3 none, rfl, fun i hi => absurd hi (by omega)⟩
  · simp [Value.cells] at hcs
    obtain ⟨rfl, rfl, rfl⟩ := hcs
    have hh : w.has Try.prog .any base a 86 (cap * Try.prog.cellsOf 86) ∨ w.has Try.prog .any base a 86 cap := by
      simp only [Value.okWide, Try.underlying32, Cell.okWide, Cell.ok] at hv
      first
      | exact .inl hv.2.2
      | exact .inr hv.2.2
    obtain ⟨hs, hb⟩ : a.spot = none ∧ a.block < w.heap.size := hh.elim has_lt has_lt
    obtain ⟨b, off, sp⟩ := a
    dsimp only at hs hb
    subst hs
    have each : ∀ i, i < len → ∃ (lo dn : Int) (nm : List Int) (u : Value), w.cell? ⟨b, off + i * 3, none⟩ = some (.int .i64 lo) ∧ w.cell? ⟨b, off + (i * 3 + 1), none⟩ = some (.int .i64 dn) ∧ w.cell? ⟨b, off + (i * 3 + 2), none⟩ = some u ∧ Rp NoO w (isl nm) u := fun i hi => by
      have h1 := hel i hi
      rw [cells86, List.getElem?_eq_getElem (by omega), Option.bind_eq_some_iff] at h1
      obtain ⟨cs', hc', ht⟩ := h1
      obtain ⟨xs, n', _, _, hl2, hx, hget⟩ := DataW.trod_struct Try.underlying86 ht
      rw [cells86] at hl2
      obtain ⟨u0, u1, u2, rfl⟩ : ∃ u0 u1 u2, cs' = [u0, u1, u2] := by
        match cs', hl2 with
        | [u0, u1, u2], _ => exact ⟨u0, u1, u2, rfl⟩
      have hx3 : xs.length = 3 := hx
      obtain ⟨y0, y1, y2, rfl⟩ : ∃ y0 y1 y2, xs = [y0, y1, y2] := by
        match xs, hx3 with
        | [y0, y1, y2], _ => exact ⟨y0, y1, y2, rfl⟩
      have g0 : DataW.trod enc Try.prog w 0 (fun _ => true) true n' 3 [u0] = some y0 := hget 0 _ rfl
      have g1 : DataW.trod enc Try.prog w 0 (fun _ => true) true n' 3 [u1] = some y1 := hget 1 _ rfl
      have g2 : DataW.trod enc Try.prog w 0 (fun _ => true) true n' 22 [u2] = some y2 := hget 2 _ rfl
      obtain ⟨lo, e0, _, _⟩ := DataW.trod_int Try.underlying3 g0
      obtain ⟨dn, e1, _, _⟩ := DataW.trod_int Try.underlying3 g1
      obtain ⟨nm, hnm⟩ := open_islH Try.underlying22 Try.underlying3 cells3 g2
      simp only [List.cons.injEq, and_true] at e0 e1
      subst e0; subst e1
      have c0 := (World.cells?_some hc').2.2 0 (by simp)
      have c1 := (World.cells?_some hc').2.2 1 (by simp)
      have c2 := (World.cells?_some hc').2.2 2 (by simp)
      rw [addr_add, addr_add] at c0 c1 c2
      refine ⟨lo, dn, nm, u2, ?_, ?_, ?_, hnm⟩
      · simpa using c0
      · simpa [Nat.add_assoc] using c1
      · simpa [Nat.add_assoc] using c2
    have hch : ∃ (f g : Nat → Int) (k : Nat → List Int) (uu : Nat → Value), ∀ i, i < len → w.cell? ⟨b, off + i * 3, none⟩ = some (.int .i64 (f i)) ∧ w.cell? ⟨b, off + (i * 3 + 1), none⟩ = some (.int .i64 (g i)) ∧ w.cell? ⟨b, off + (i * 3 + 2), none⟩ = some (uu i) ∧ Rp NoO w (isl (k i)) (uu i) := by
      refine ⟨fun i => if h : i < len then (each i h).choose else 0, fun i => if h : i < len then (each i h).choose_spec.choose else 0, fun i => if h : i < len then (each i h).choose_spec.choose_spec.choose else [], fun i => if h : i < len then (each i h).choose_spec.choose_spec.choose_spec.choose else default, fun i hi => ?_⟩
      simp only [dif_pos hi]
      exact (each i hi).choose_spec.choose_spec.choose_spec.choose_spec
    obtain ⟨f, g, k, uu, hfg⟩ := hch
    let cel : Nat → AV := fun j => if j % 3 = 0 then iv (f (j / 3)) else if j % 3 = 1 then iv (g (j / 3)) else isl (k (j / 3))
    have hC : ∀ i, i < len → ((List.range (len * 3)).map cel)[i * 3]? = some (iv (f i)) ∧ ((List.range (len * 3)).map cel)[i * 3 + 1]? = some (iv (g i)) ∧ ((List.range (len * 3)).map cel)[i * 3 + 2]? = some (isl (k i)) := fun i hi => by
      have e0 : i * 3 % 3 = 0 := by omega
      have e1 : (i * 3 + 1) % 3 = 1 := by omega
      have e2 : (i * 3 + 2) % 3 = 2 := by omega
      have d0 : i * 3 / 3 = i := by omega
      have d1 : (i * 3 + 1) / 3 = i := by omega
      have d2 : (i * 3 + 2) / 3 = i := by omega
      refine ⟨?_, ?_, ?_⟩
      · rw [List.getElem?_map, List.getElem?_range (by omega), Option.map_some]
        simp only [cel, e0, d0, if_true]
      · rw [List.getElem?_map, List.getElem?_range (by omega), Option.map_some]
        simp only [cel, e1, d1]
        rfl
      · rw [List.getElem?_map, List.getElem?_range (by omega), Option.map_some]
        simp only [cel, e2, d2]
        rfl
    have hCl : ((List.range (len * 3)).map cel).length = len * 3 := by simp
    refine ⟨len, (List.range (len * 3)).map cel, f, g, k, ?_, hCl, hC⟩
    refine Rp.mk_sl (fun h => h) hb hl hCl fun i c hi => ?_
    have hil : i < len * 3 := by
      have := (List.getElem?_eq_some_iff.1 hi).1
      rw [hCl] at this
      exact this
    obtain ⟨a0, a1, a2, a3⟩ := hfg (i / 3) (by omega)
    obtain ⟨b0, b1, b2⟩ := hC (i / 3) (by omega)
    have hm3 : i % 3 = 0 ∨ i % 3 = 1 ∨ i % 3 = 2 := by omega
    rcases hm3 with hm3 | hm3 | hm3
    · have e : i / 3 * 3 = i := by omega
      rw [e] at a0 b0
      rw [b0] at hi
      exact ⟨_, a0, by cases hi; exact .v _⟩
    · have e : i / 3 * 3 + 1 = i := by omega
      rw [e] at a1 b1
      rw [b1] at hi
      exact ⟨_, a1, by cases hi; exact .v _⟩
    · have e : i / 3 * 3 + 2 = i := by omega
      rw [e] at a2 b2
      rw [b2] at hi
      exact ⟨_, a2, by cases hi; exact a3⟩
end Go.Proofs.Ytbobgnkohnbonaa

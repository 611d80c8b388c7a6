/- Parts of the proof, put together by a program. -/
import Derived.Test.YtpdecefdhkhlnaaGreatDoorProg
import Derived.WalkKit
import Derived.RegionTactic
import Derived.ChangeAlike
import Derived.OwnWalk
import Derived.Shelf.Spec.SlicesInsert
import Derived.Lib.AppendZerosOnto
import Derived.KernelRfl
set_option maxRecDepth 100000
set_option maxHeartbeats 4000000
set_option linter.unusedSimpArgs false
set_option linter.unusedVariables false
set_option linter.unusedSectionVars false
namespace Go.Proofs.YtpdecefdhkhlnaaGreatDoor
open Go.RowKit Go.Shelf Go.Proofs Go.Lib
theorem info96 : (Tryz.prog.info? 96).map (fun i => (i.zero, i.size, i.bytes)) = some (some (Value.pointer none), 1, 8) := by kernel_rfl
theorem ins_grow (b vb : Nat) (cs : List Value) (x : Value) (w : World) (hcl : cs.length = 4) (hcs : ∀ j v, cs[j]? = some v → w.cell? ⟨b, 0 + j, none⟩ = some v) (hx : w.cell? ⟨vb, 0, none⟩ = some x)
    (h1c : ∀ v ∈ cs, v.oneCell' = true) (h1v : x.oneCell' = true) :
    Calls Tryz.prog 74 #[.slice (some ⟨b, 0, none⟩) 4 4, .int .i64 0, .slice (some ⟨vb, 0, none⟩) 1 1] w fun e w' =>
      e = .returned (.slice (some ⟨w.heap.size, 0, none⟩) 5 (grownCap w 5 4 96)) ∧
      w' = (((w.alloc (.cells (Builtin.zeroCells (Value.pointer none).cells 5 ++ Builtin.zeroCells (Value.pointer none).cells (grownCap w 5 4 96 - 5)) 96)).drew.setCells w.heap.size 0 [x]).drew).setCells w.heap.size 1 cs := by
  have mixed : Tryz.prog.follows .mixedOrders = true := by kernel_rfl
  have u0 := run_underlying Tryz.underlying93
  have u1 := run_underlying Tryz.underlying96
  have u3 := run_underlying Tryz.underlying3
  obtain ⟨i0, hi0, hz0, hzs, hzb⟩ := info_parts info96
  have hsz : (Tryz.prog.info? 96).map (·.size) = some 1 := by rw [hi0]; simp [hzs]
  have hbw : b < w.heap.size := block_lt_of_cell (hcs 0 _ (List.getElem?_eq_getElem (by omega)))
  have hvw : vb < w.heap.size := block_lt_of_cell hx
  have hold : (Builtin.firstCells i0.size 0 (.slice (some ⟨b, 0, none⟩) 0 4)).run Tryz.prog w.drew = .ok ([] : List Value).toArray w.drew := by
    rw [hzs]
    exact run_firstCells_some w.drew 1 0 ⟨b, 0, none⟩ 0 4 [] rfl (fun j v hj => by simp at hj)
  obtain ⟨G, hG⟩ : ∃ G, G = grownCap w 5 4 96 := ⟨_, rfl⟩
  have hGn : 5 ≤ G := by rw [hG]; exact grownCap_ge w _ _ _
  have hG63 : G ≤ 9223372036854775807 := by
    have := grownCap_le_maxLen w 5 4 96 (by unfold maxLen; omega)
    rw [← hG] at this
    unfold maxLen at this
    omega
  have hrz : ∀ ty, (Builtin.append_ #[93, 3] ty #[.slice (some ⟨b, 0, none⟩) 0 4, .int .i64 5]).run Tryz.prog w =
      .ok (.slice (some ⟨w.heap.size, 0, none⟩) 5 G) (w.drew.alloc (.cells (Builtin.zeroCells (Value.pointer none).cells 5 ++ Builtin.zeroCells (Value.pointer none).cells (G - 5)) 96)) := fun ty => by
    have h := Lib.run_append_grow_zeros w 93 3 ty 96 i0 _ .i64 .i64 Tryz.underlying93 Tryz.underlying3 hi0 hz0 (some ⟨b, 0, none⟩) 0 4 [] hold 5 (by omega) (by omega) (by omega) (by omega) (by rw [hzb]; omega) (by rw [hzb]; exact growslice_fits (by omega) (by omega))
    rw [Nat.zero_add, ← hG] at h
    simpa using h
  obtain ⟨ROW, hROW⟩ : ∃ ROW : Array Value, ROW = Builtin.zeroCells (Value.pointer none).cells 5 ++ Builtin.zeroCells (Value.pointer none).cells (G - 5) := ⟨_, rfl⟩
  rw [← hG]
  rw [← hROW] at hrz ⊢
  have hRl : 5 ≤ ROW.size := by
    rw [hROW]
    simp [Builtin.zeroCells, Value.cells]
  obtain ⟨W1, hW1⟩ : ∃ W1, W1 = w.drew.alloc (.cells ROW 96) := ⟨_, rfl⟩
  rw [← hW1] at hrz
  have hN : ∀ j, j < 5 → (W1.cell? ⟨w.heap.size, j, none⟩).isSome = true := fun j hj => by
    rw [hW1, World.cell?_alloc_at (w := w.drew) ROW _ w.heap.size j rfl, Array.getElem?_eq_getElem (by omega)]; rfl
  have hNf : ∀ j, W1.frozen? ⟨w.heap.size, j, none⟩ = false := fun j => by rw [hW1]; exact World.frozen?_alloc_at (w := w.drew) ROW _ w.heap.size j rfl
  have hOb : ∀ j v, w.cell? ⟨b, j, none⟩ = some v → W1.cell? ⟨b, j, none⟩ = some v := fun j v h => by rw [hW1, World.cell?_alloc_past (w := w.drew) _ b j hbw]; exact h
  have hOv : ∀ j v, w.cell? ⟨vb, j, none⟩ = some v → W1.cell? ⟨vb, j, none⟩ = some v := fun j v h => by rw [hW1, World.cell?_alloc_past (w := w.drew) _ vb j hvw]; exact h
  have hcpA : ∀ (W : World), (∀ x, W.cell? x = W1.cell? x) → (∀ x, W.frozen? x = W1.frozen? x) → ∀ ty dc, (Builtin.copy_ #[93, 93] ty #[.slice (some ⟨w.heap.size, 0, none⟩) 5 dc, .slice (some ⟨vb, 0, none⟩) 1 1]).run Tryz.prog W = .ok (goInt [x].length) (W.setCells w.heap.size 0 [x]) := fun W hWc hWf ty dc =>
    run_copy_cells W _ _ ty 96 w.heap.size 0 5 dc ⟨vb, 0, none⟩ 1 1 [x] Tryz.underlying93 hsz rfl
      (fun j v hj => by
        rw [Addr.add_lit, hWc]
        match j, hj with
        | 0, hj => simp at hj; subst hj; exact hOv _ _ hx)
      (fun j hj => by rw [hWc]; simp at hj; subst hj; exact hN _ (by omega)) (fun j hj => by rw [hWf]; exact hNf _) (fun v hv => by simp at hv; subst hv; exact h1v)
  have hbN : b ≠ w.heap.size := by omega
  have hcpB : ∀ (W : World), (∀ y, W.cell? y = (W1.setCells w.heap.size 0 [x]).cell? y) → (∀ y, W.frozen? y = (W1.setCells w.heap.size 0 [x]).frozen? y) → ∀ ty dc sc, (Builtin.copy_ #[93, 93] ty #[.slice (some ⟨w.heap.size, 1, none⟩) 4 dc, .slice (some ⟨b, 0, none⟩) 4 sc]).run Tryz.prog W = .ok (goInt cs.length) (W.setCells w.heap.size 1 cs) := fun W hWc hWf ty dc sc =>
    run_copy_cells W _ _ ty 96 w.heap.size 1 4 dc ⟨b, 0, none⟩ 4 sc cs Tryz.underlying93 hsz (by rw [hcl]; rfl)
      (fun j v hj => by
        rw [Addr.add_lit, hWc, World.cell?_setCells_out _ _ _ _ _ (fun h _ => absurd h hbN)]
        exact hOb _ v (hcs j v hj))
      (fun j hj => by rw [hWc]; exact isSome_setCells _ _ _ _ (fun t ht => hN _ (by simp at ht; omega)) _ (hN _ (by omega)))
      (fun j hj => by rw [hWf, World.frozen?_setCells]; exact hNf _) h1c
  subst hW1
  have hE1 : ∀ x, ((w.alloc (.cells ROW 96)).drew).cell? x = (w.drew.alloc (.cells ROW 96)).cell? x := fun x => rfl
  have hE2 : ∀ x, ((w.alloc (.cells ROW 96)).drew).frozen? x = (w.drew.alloc (.cells ROW 96)).frozen? x := fun x => rfl
  have hF1 : ∀ y, (((w.alloc (.cells ROW 96)).drew.setCells w.heap.size 0 [x]).drew).cell? y = ((w.drew.alloc (.cells ROW 96)).setCells w.heap.size 0 [x]).cell? y := fun x => rfl
  have hF2 : ∀ y, (((w.alloc (.cells ROW 96)).drew.setCells w.heap.size 0 [x]).drew).frozen? y = ((w.drew.alloc (.cells ROW 96)).setCells w.heap.size 0 [x]).frozen? y := fun x => rfl
  have hw1 : IntKind.i64.wrap 1 = 1 := by decide
  have hG1 : ¬ (G = 1) := by omega
  have hG0 : ¬ (G = 0) := by omega
  have ht1 : (1 : Int).toNat = 1 := rfl
  clear hold hROW hG hRl
  go_enter Tryz.func74, Tryz.ntmps74
  go_wp2_with (first
    | (at_builtin; refine Lib.wpList_append_run _ rfl _ _ _ _ rfl _ _ rfl rfl _ _ (hrz _) ?_)
    | (at_builtin; refine wpList_copy_runI _ rfl _ _ 93 93 rfl _ _ rfl rfl (hcpA _ hE1 hE2 _ _) ?_)
    | (at_builtin; refine wpList_copy_runI _ rfl _ _ 93 93 rfl _ _ rfl rfl (hcpB _ (fun _ => rfl) (fun _ => rfl) _ _ _) ?_))
  go_region_law_o (refine step_copy_runI rfl _ _ 93 93 rfl (.slice (some ⟨w.heap.size, 1, none⟩) 4 (G - 1)) (.slice (some ⟨b, 0, none⟩) 4 4) (by simp [Act.eval, Act.put]) (by simp [Act.eval, Act.put]) (hcpB _ hF1 hF2 3 (G - 1) 4) ?_)
  go_wp2
  go_ret
  exact ⟨rfl, rfl⟩
theorem ins_row (b vb : Nat) (c0 c1 c2 c3 x : Value) (w : World) (hcs : ∀ j v, [c0, c1, c2, c3][j]? = some v → w.cell? ⟨b, 0 + j, none⟩ = some v) (hx : w.cell? ⟨vb, 0, none⟩ = some x)
    (h1c : ∀ v ∈ [c0, c1, c2, c3], v.oneCell' = true) (h1v : x.oneCell' = true) :
    Calls Tryz.prog 74 #[.slice (some ⟨b, 0, none⟩) 4 4, .int .i64 0, .slice (some ⟨vb, 0, none⟩) 1 1] w fun e w' =>
      ∃ (G : Nat) (arr : Array Value), 5 ≤ G ∧ G ≤ arr.size ∧ (∀ (j : Nat) (v : Value), [x, c0, c1, c2, c3][j]? = some v → arr[j]? = some v) ∧ e = .returned (.slice (some ⟨w.heap.size, 0, none⟩) 5 G) ∧ Below w.heap.size w w' ∧ w'.heap[w.heap.size]? = some (.cells arr 96 (0, 0)) := by
  refine (ins_grow b vb [c0, c1, c2, c3] x w rfl hcs hx h1c h1v).mono ?_
  rintro e w' ⟨rfl, rfl⟩
  obtain ⟨G, hG⟩ : ∃ G, G = grownCap w 5 4 96 := ⟨_, rfl⟩
  have hGn : 5 ≤ G := by rw [hG]; exact grownCap_ge w _ _ _
  rw [← hG]
  clear hG
  obtain ⟨ROW, hROW⟩ : ∃ ROW : Array Value, ROW = Builtin.zeroCells (Value.pointer none).cells 5 ++ Builtin.zeroCells (Value.pointer none).cells (G - 5) := ⟨_, rfl⟩
  have hRs : ROW.size = G := by
    rw [hROW]
    simp [Builtin.zeroCells, Value.cells]
    omega
  rw [← hROW]
  clear hROW
  refine ⟨G, ((((ROW.setIfInBounds 0 x).setIfInBounds 1 c0).setIfInBounds 2 c1).setIfInBounds 3 c2).setIfInBounds 4 c3, hGn, by simp [hRs], ?_, rfl, ?_, ?_⟩
  · intro j v hj
    match j, hj with
    | 0, hj => simp at hj; subst hj; simp [Array.getElem?_setIfInBounds, hRs]; omega
    | 1, hj => simp at hj; subst hj; simp [Array.getElem?_setIfInBounds, hRs]; omega
    | 2, hj => simp at hj; subst hj; simp [Array.getElem?_setIfInBounds, hRs]; omega
    | 3, hj => simp at hj; subst hj; simp [Array.getElem?_setIfInBounds, hRs]; omega
    | 4, hj => simp at hj; subst hj; simp [Array.getElem?_setIfInBounds, hRs]; omega
    | j + 5, hj => simp at hj
  · simp only [World.setCells]
    have h0 : Below w.heap.size w (w.alloc (.cells ROW 96)).drew := ((Below.refl _ _).alloc (Nat.le_refl _) _).drew
    exact ((((((h0.setCell (p := ⟨w.heap.size, 0, none⟩) (Nat.le_refl _) _).drew.setCell (p := ⟨w.heap.size, 1, none⟩) (Nat.le_refl _) _).setCell (p := ⟨w.heap.size, 2, none⟩) (Nat.le_refl _) _).setCell (p := ⟨w.heap.size, 3, none⟩) (Nat.le_refl _) _).setCell (p := ⟨w.heap.size, 4, none⟩) (Nat.le_refl _) _))
  · simp only [World.setCells]
    have h0 : ((w.alloc (.cells ROW 96)).drew).heap[w.heap.size]? = some (.cells ROW 96 (0, 0)) := Array.getElem?_push_size
    have h1 := heap_setCell_same _ _ 0 _ _ x h0
    have h2 : (((w.alloc (.cells ROW 96)).drew.setCell ⟨w.heap.size, 0, none⟩ x).drew).heap[w.heap.size]? = _ := h1
    exact heap_setCell_same _ _ 4 _ _ c3 (heap_setCell_same _ _ 3 _ _ c2 (heap_setCell_same _ _ 2 _ _ c1 (heap_setCell_same _ _ 1 _ _ c0 h2)))
def rnRow (b st : Nat) : List Value := [2, 3, 4, 5].map fun i => Value.pointer (some ⟨b, st + i, none⟩)
theorem rn_curve (b st : Nat) (k : Int) (w : World) (hk : w.cell? ⟨b, st, none⟩ = some (.int .i64 k)) (h0 : k ≠ 0) :
    Calls Tryz.prog 50 #[.pointer (some ⟨b, st, none⟩)] w fun e w' =>
      e = .returned (.slice (some ⟨w.heap.size, 0, none⟩) 4 4) ∧ w' = (w.alloc (.cells (rnRow b st).toArray 96)).drew := by
  have hbw : b < w.heap.size := block_lt_of_cell hk
  have mixed : Tryz.prog.follows .mixedOrders = true := by kernel_rfl
  go_enter Tryz.func50, Tryz.ntmps50
  go_wp2
  go_region
  go_wp2
  go_ret
  exact ⟨rfl, rfl⟩
theorem rn_med (b st : Nat) (w : World) (hk : w.cell? ⟨b, st, none⟩ = some (.int .i64 0)) :
    Calls Tryz.prog 50 #[.pointer (some ⟨b, st, none⟩)] w fun e w' => ∃ (G : Nat) (arr : Array Value), 5 ≤ G ∧ G ≤ arr.size ∧ (∀ (j : Nat) (v : Value), [Value.pointer (some ⟨b, st + 1, none⟩), .pointer (some ⟨b, st + 2, none⟩), .pointer (some ⟨b, st + 3, none⟩), .pointer (some ⟨b, st + 4, none⟩), .pointer (some ⟨b, st + 5, none⟩)][j]? = some v → arr[j]? = some v) ∧
      e = .returned (.slice (some ⟨w.heap.size + 2, 0, none⟩) 5 G) ∧ Below w.heap.size w w' ∧ w'.heap[w.heap.size + 2]? = some (.cells arr 96 (0, 0)) := by
  have hbw : b < w.heap.size := block_lt_of_cell hk
  have mixed : Tryz.prog.follows .mixedOrders = true := by kernel_rfl
  obtain ⟨W, hW⟩ : ∃ W, W = ((w.alloc (.cells (rnRow b st).toArray 96)).alloc (.cells #[Value.pointer (some ⟨b, st + 1, none⟩)] 96)).drew := ⟨_, rfl⟩
  have hWs : W.heap.size = w.heap.size + 2 := by rw [hW]; show ((w.heap.push _).push _).size = _; rw [Array.size_push, Array.size_push]
  have hs1 : ∀ o, w.heap.size < (w.alloc o).heap.size := fun o => by show _ < (w.heap.push o).size; rw [Array.size_push]; omega
  have hWb : Below w.heap.size w W := by rw [hW]; exact (((Below.refl _ _).alloc (Nat.le_refl _) _).alloc (Nat.le_of_lt (hs1 _)) _).drew
  have hI := ins_row w.heap.size (w.heap.size + 1) (.pointer (some ⟨b, st + 2, none⟩)) (.pointer (some ⟨b, st + 3, none⟩)) (.pointer (some ⟨b, st + 4, none⟩)) (.pointer (some ⟨b, st + 5, none⟩)) (.pointer (some ⟨b, st + 1, none⟩)) W (fun j v hj => by
      rw [hW]
      refine (World.cell?_alloc_past (w := w.alloc (.cells (rnRow b st).toArray 96)) _ w.heap.size (0 + j) (hs1 _)).trans ?_
      rw [World.cell?_alloc_at (w := w) _ _ w.heap.size (0 + j) rfl, Nat.zero_add]
      exact (List.getElem?_toArray).trans hj) (by
      rw [hW]
      exact World.cell?_alloc_at (w := w.alloc (.cells (rnRow b st).toArray 96)) _ _ (w.heap.size + 1) 0 (by show _ = (w.heap.push _).size; rw [Array.size_push])) (fun v hv => by simp at hv; rcases hv with rfl | rfl | rfl | rfl <;> rfl) rfl
  rw [hWs] at hI
  have hJ : Calls Tryz.prog 74 #[.slice (some ⟨w.heap.size, 0, none⟩) 4 4, .int .i64 0, .slice (some ⟨w.heap.size + 1, 0, none⟩) 1 1] W fun e w' => ∃ (G : Nat) (arr : Array Value), (5 ≤ G ∧ G ≤ arr.size ∧ (∀ (j : Nat) (v : Value), [Value.pointer (some ⟨b, st + 1, none⟩), .pointer (some ⟨b, st + 2, none⟩), .pointer (some ⟨b, st + 3, none⟩), .pointer (some ⟨b, st + 4, none⟩), .pointer (some ⟨b, st + 5, none⟩)][j]? = some v → arr[j]? = some v) ∧
      Below w.heap.size w w' ∧ w'.heap[w.heap.size + 2]? = some (.cells arr 96 (0, 0))) ∧ e = .returned (.slice (some ⟨w.heap.size + 2, 0, none⟩) 5 G) :=
    hI.mono fun e w' ⟨G, arr, h1, h2, h3, h4, h5, h6⟩ => ⟨G, arr, ⟨h1, h2, h3, hWb.trans (h5.mono (by omega)), h6⟩, h4⟩
  clear hI hWs hWb
  unfold rnRow at hW
  simp only [List.map_cons, List.map_nil] at hW
  subst hW
  go_enter Tryz.func50, Tryz.ntmps50
  go_wp2
  go_region
  go_wp2_with (go_at_call 74; refine hJ.mono ?_; rintro e w' ⟨G, arr, hgood, rfl⟩)
  go_ret
  exact ⟨_, _, hgood.1, hgood.2.1, hgood.2.2.1, rfl, hgood.2.2.2.1, hgood.2.2.2.2⟩
end Go.Proofs.YtpdecefdhkhlnaaGreatDoor

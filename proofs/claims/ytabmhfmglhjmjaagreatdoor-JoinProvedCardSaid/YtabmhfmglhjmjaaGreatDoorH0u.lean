/- Arguments of the kinds that occur in this chapter. -/
import Derived.Test.YtabmhfmglhjmjaaGreatDoorH0t
set_option linter.unusedSimpArgs false
set_option linter.unusedVariables false
set_option linter.unusedSectionVars false
set_option maxRecDepth 100000
namespace Go.Proofs.YtabmhfmglhjmjaaGreatDoor
open Go.ChangeShapes Go.WideShapes Go.ChangeAt Go.RowKit Go.Ab
attribute [local instance] drS
section
variable {H : Type} {P : Program} {w : World} {t e : TypeId} {α β : Type} {enc : TypeId × Value → H} {base : Nat} {v : Value} {d : DataW H} {ps : List MemPlace}
theorem opn_map {k : Nat} {D : α → List AV} {D' : β → List AV} (f : α → β) (h : ∀ a, D a = D' (f a)) (hE : Opn enc P w t k D) : Opn enc P w t k D' := fun fuel cs x hx => by
  obtain ⟨a, h1, h2, h3⟩ := hE _ _ _ hx
  rw [h] at h1
  refine ⟨f a, h1, h2, fun j c hc => h3 j c ?_⟩
  rw [h]; exact hc
theorem fm_sing {α β : Type} (f : α → β) : ∀ l : List α, (l.flatMap fun x => [f x]) = l.map f
  | [] => rfl
  | x :: l => by rw [List.flatMap_cons, fm_sing f l]; rfl
theorem opn_ints (ht : P.underlying t = some (.slice e)) (he : P.underlying e = some (.int .i64)) (hc : P.cellsOf e = 1) : Opn enc P w t 1 (fun xs : List Int => [isl xs]) :=
  opn_map (fun xs => xs) (fun xs => by unfold isl ints; rw [fm_sing]) (opn_slice ht hc (Nat.le_refl _) (fun _ => rfl) (opn_int he))
theorem opn_lists {u : TypeId} (hu : P.underlying u = some (.slice t)) (hk : P.cellsOf t = 1) (ht : P.underlying t = some (.slice e)) (he : P.underlying e = some (.int .i64)) (hc : P.cellsOf e = 1) : Opn enc P w u 1 (fun l : List (List Int) => [.sl 1 l.length (l.map isl)]) :=
  opn_map (fun xs => xs) (fun xs => by rw [fm_sing]) (opn_slice hu hk (Nat.le_refl _) (fun _ => rfl) (opn_ints ht he hc))
theorem cellsS (v : Value) (h : ∃ a l c, v = .slice a l c) : v.cells = #[v] := by obtain ⟨a, l, c, rfl⟩ := h; rfl
end
section
variable {H : Type} {w : World} {enc : TypeId × Value → H} {base : Nat} {v : Value} {d : DataW H} {ps : List MemPlace}
theorem cells22 : Tryz.prog.cellsOf 22 = 1 := by kernel_rfl
theorem cells9 : Tryz.prog.cellsOf 9 = 1 := by kernel_rfl
theorem cells33 : Tryz.prog.cellsOf 33 = 1 := by kernel_rfl
theorem cells102 : Tryz.prog.cellsOf 102 = 3 := by kernel_rfl
theorem cells35 : Tryz.prog.cellsOf 35 = 4 := by kernel_rfl
theorem cells87 : Tryz.prog.cellsOf 87 = 3 := by kernel_rfl
theorem cells46 : Tryz.prog.cellsOf 46 = 2 := by kernel_rfl
theorem opn_22 : Opn enc Tryz.prog w 22 1 (fun xs : List Int => [isl xs]) := opn_ints Tryz.underlying22 Tryz.underlying3 cells3
theorem opn_tf : Opn enc Tryz.prog w 102 3 Tf.cells :=
  opn_map (fun p : ByteArray × Int × List Int => (⟨p.1, p.2.1, p.2.2⟩ : Tf)) (fun _ => rfl)
    (opn_three (fun s : ByteArray => AV.v (.string s)) (fun n : Int => iv n) (fun xs : List Int => isl xs) (fun _ => rfl) (fun _ => rfl) (fun _ => rfl) Tryz.underlying102 cells102 rfl rfl rfl cells9 cells3 cells22 (opn_str Tryz.underlying9) (opn_int Tryz.underlying3) opn_22)
theorem opn_33 : Opn enc Tryz.prog w 33 1 (fun ts : List Tf => [tsl ts]) := opn_slice Tryz.underlying33 cells102 (by decide) (fun _ => rfl) opn_tf
theorem opn_35 : Opn enc Tryz.prog w 35 4 (fun p : List Tf × Int × Int × Int => [tsl p.1, iv p.2.1, iv p.2.2.1, iv p.2.2.2]) :=
  opn_four (fun ts : List Tf => tsl ts) (fun n : Int => iv n) (fun n : Int => iv n) (fun n : Int => iv n) (fun _ => rfl) (fun _ => rfl) (fun _ => rfl) (fun _ => rfl) Tryz.underlying35 cells35 rfl rfl rfl rfl cells33 cells3 cells3 cells3 opn_33 (opn_int Tryz.underlying3) (opn_int Tryz.underlying3) (opn_int Tryz.underlying3)
theorem opn_37 : Opn enc Tryz.prog w 37 1 (fun l : List ByteArray => [.sl 1 l.length (l.map fun s => .v (.string s))]) :=
  opn_map (fun xs => xs) (fun xs => by rw [fm_sing]) (opn_slice Tryz.underlying37 cells9 (Nat.le_refl _) (fun _ => rfl) (opn_str Tryz.underlying9))
theorem open_tfs (hv : Value.okWide Tryz.prog w .any base 33 v) (h : DataW.Trod enc Tryz.prog w 0 (fun _ => true) true 33 v d ps) : ∃ ts : List Tf, Rp NoO w (tsl ts) v ∧ True := by
  obtain ⟨ts, hr⟩ := top_one (fun ts : List Tf => tsl ts) (fun _ => rfl) opn_33 (cellsS v (okWide_slice Tryz.underlying33 hv)) h
  exact ⟨ts, hr, trivial⟩
theorem open_task (hv : Value.okWide Tryz.prog w .any base 35 v) (h : DataW.Trod enc Tryz.prog w 0 (fun _ => true) true 35 v d ps) : ∃ (ts : List Tf) (n g c : Int), Rp NoO w (.ag [tsl ts, iv n, iv g, iv c]) v ∧ True := by
  obtain ⟨us, rfl, _⟩ := okWide_struct Tryz.underlying35 hv
  obtain ⟨⟨ts, n, g, c⟩, hr⟩ := top_agg opn_35 h
  exact ⟨ts, n, g, c, hr, trivial⟩
theorem open_names (hv : Value.okWide Tryz.prog w .any base 37 v) (h : DataW.Trod enc Tryz.prog w 0 (fun _ => true) true 37 v d ps) : ∃ l : List ByteArray, Rp NoO w (.sl 1 l.length (l.map fun s => .v (.string s))) v ∧ True := by
  obtain ⟨ts, hr⟩ := top_one (fun l : List ByteArray => AV.sl 1 l.length (l.map fun s => .v (.string s))) (fun _ => rfl) opn_37 (cellsS v (okWide_slice Tryz.underlying37 hv)) h
  exact ⟨ts, hr, trivial⟩
theorem open_lists (hv : Value.okWide Tryz.prog w .any base 115 v) (h : DataW.Trod enc Tryz.prog w 0 (fun _ => true) true 115 v d ps) : ∃ l : List (List Int), Rp NoO w (.sl 1 l.length (l.map isl)) v ∧ True := by
  obtain ⟨l, hr⟩ := top_one (fun l : List (List Int) => AV.sl 1 l.length (l.map isl)) (fun _ => rfl) (opn_lists Tryz.underlying115 cells22 Tryz.underlying22 Tryz.underlying3 cells3) (cellsS v (okWide_slice Tryz.underlying115 hv)) h
  exact ⟨l, hr, trivial⟩
theorem open_prices (hv : Value.okWide Tryz.prog w .any base 118 v) (h : DataW.Trod enc Tryz.prog w 0 (fun _ => true) true 118 v d ps) : ∃ l : List (List Int), Rp NoO w (.sl 1 l.length (l.map isl)) v ∧ True := by
  obtain ⟨l, hr⟩ := top_one (fun l : List (List Int) => AV.sl 1 l.length (l.map isl)) (fun _ => rfl) (opn_lists Tryz.underlying118 cells22 Tryz.underlying22 Tryz.underlying3 cells3) (cellsS v (okWide_slice Tryz.underlying118 hv)) h
  exact ⟨l, hr, trivial⟩
theorem opn_lmk : Opn enc Tryz.prog w 87 3 (fun x : Lmk => ints x.cells) :=
  opn_map (fun p : Int × Int × Int => (⟨p.1, p.2.1, p.2.2⟩ : Lmk)) (fun _ => rfl)
    (opn_three (fun n : Int => iv n) (fun n : Int => iv n) (fun n : Int => iv n) (fun _ => rfl) (fun _ => rfl) (fun _ => rfl) Tryz.underlying87 cells87 rfl rfl rfl cells3 cells3 cells3 (opn_int Tryz.underlying3) (opn_int Tryz.underlying3) (opn_int Tryz.underlying3))
theorem fm_ints : ∀ l : List Lmk, (l.flatMap fun x => ints x.cells) = ints (flatL l)
  | [] => rfl
  | x :: l => by rw [List.flatMap_cons, fm_ints l]; simp [flatL, ints]
theorem open_lmks (hv : Value.okWide Tryz.prog w .any base 66 v) (h : DataW.Trod enc Tryz.prog w 0 (fun _ => true) true 66 v d ps) : ∃ l : List Lmk, Rp NoO w (.sl 3 l.length (ints (flatL l))) v ∧ True := by
  obtain ⟨l, hr⟩ := top_one (fun l : List Lmk => AV.sl 3 l.length (l.flatMap fun x => ints x.cells)) (fun _ => rfl) (opn_slice Tryz.underlying66 cells87 (by decide) (fun _ => rfl) opn_lmk) (cellsS v (okWide_slice Tryz.underlying66 hv)) h
  rw [fm_ints] at hr
  exact ⟨l, hr, trivial⟩
theorem open_str (hv : Value.okWide Tryz.prog w .any base 9 v) (h : DataW.Trod enc Tryz.prog w 0 (fun _ => true) true 9 v d ps) : ∃ s : ByteArray, Rp NoO w (.v (.string s)) v ∧ True := by
  obtain ⟨s, rfl⟩ := okWide_string Tryz.underlying9 hv
  exact ⟨s, .v _, trivial⟩
theorem open_two (hv : Value.okWide Tryz.prog w .any base 46 v) (h : DataW.Trod enc Tryz.prog w 0 (fun _ => true) true 46 v d ps) : ∃ a b : Int, Rp NoO w (.ag [iv a, iv b]) v ∧ True := by
  have hv' := hv
  simp only [Value.okWide, Tryz.underlying46] at hv'
  obtain ⟨us, rfl, _⟩ := hv'
  obtain ⟨fuel, hf⟩ := h
  obtain ⟨xs, m, _, _, hlen, hx, hget⟩ := DataW.trod_array Tryz.underlying46 hf
  have hl2 : us.toList.length = 2 := by rw [cells46] at hlen; exact hlen
  obtain ⟨a, b, e⟩ : ∃ a b : Value, us = #[a, b] := by
    obtain ⟨l⟩ := us
    match l, hl2 with
    | [a, b], _ => exact ⟨a, b, rfl⟩
  subst e
  have g0 := hget 0 (by decide)
  have g1 := hget 1 (by decide)
  rw [cells3] at g0 g1
  rw [List.getElem?_eq_getElem (by omega)] at g0 g1
  obtain ⟨x, hx0, _, _⟩ := DataW.trod_int Tryz.underlying3 g0
  obtain ⟨y, hy0, _, _⟩ := DataW.trod_int Tryz.underlying3 g1
  have e0 : [a] = [Value.int .i64 x] := hx0
  have e1 : [b] = [Value.int .i64 y] := hy0
  simp only [List.cons.injEq, and_true] at e0 e1
  subst e0 e1
  refine ⟨x, y, ?_, trivial⟩
  refine .ag _ _ (fun i => if i = 0 then .int .i64 x else .int .i64 y) rfl (fun i q hi => ?_) (fun i q hi => ?_)
  · match i, hi with
    | 0, _ => rfl
    | 1, _ => rfl
    | k + 2, hi => simp at hi
  · match i, hi with
    | 0, hi => cases hi; exact .v _
    | 1, hi => cases hi; exact .v _
    | k + 2, hi => simp at hi
end
end Go.Proofs.YtabmhfmglhjmjaaGreatDoor

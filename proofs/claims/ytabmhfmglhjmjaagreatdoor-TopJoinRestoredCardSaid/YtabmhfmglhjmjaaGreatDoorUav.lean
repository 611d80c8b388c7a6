/- Parts of the proof, put together by a program. -/
import Derived.Test.YtabmhfmglhjmjaaGreatDoorUau
set_option linter.unusedSimpArgs false
set_option linter.unusedVariables false
set_option linter.unusedSectionVars false
set_option maxRecDepth 100000
namespace Go.Proofs.YtabmhfmglhjmjaaGreatDoor
open Go.ChangeShapes Go.WideShapes Go.ChangeAt Go.RowKit Go.Ab
attribute [local instance] drS
section
variable {H : Type} {P : Program} {w : World} {t e : TypeId} {α β γ : Type} {enc : TypeId × Value → H}
theorem opn_part {k o : Nat} {D : α → List AV} {u : TypeId} {cs : List Value} {n : Nat} {y : Option (DataW H × List MemPlace)} (hE : Opn enc P w u k D)
    (h : DataW.trod enc P w 0 (fun _ => true) true n u ((cs.drop o).take k) = y) (hy : y.isSome = true) : ∃ a : α, (D a).length = k ∧ ∀ (j : Nat) c, (D a)[j]? = some c → ∃ v, cs[o + j]? = some v ∧ Rp NoO w c v := by
  obtain ⟨z, rfl⟩ := Option.isSome_iff_exists.1 hy
  obtain ⟨a, h1, h2, hg⟩ := hE _ _ _ h
  refine ⟨a, h1, fun j c hc => ?_⟩
  have hj : j < k := by rw [← h1]; exact (List.getElem?_eq_some_iff.1 hc).1
  obtain ⟨v, hv, hr⟩ := hg j c hc
  rw [List.getElem?_take_of_lt hj, List.getElem?_drop] at hv
  exact ⟨v, hv, hr⟩
theorem opn_cat3 {k0 k1 k2 : Nat} {D0 : α → List AV} {D1 : β → List AV} {D2 : γ → List AV} {f0 f1 f2 : Field} (ht : P.underlying t = some (.struct #[f0, f1, f2])) (hk : P.cellsOf t = k0 + (k1 + k2))
    (o0 : f0.offset = 0) (o1 : f1.offset = k0) (o2 : f2.offset = k0 + k1) (c0 : P.cellsOf f0.type = k0) (c1 : P.cellsOf f1.type = k1) (c2 : P.cellsOf f2.type = k2)
    (h0 : Opn enc P w f0.type k0 D0) (h1 : Opn enc P w f1.type k1 D1) (h2 : Opn enc P w f2.type k2 D2) : Opn enc P w t (k0 + (k1 + k2)) (fun p : α × β × γ => D0 p.1 ++ (D1 p.2.1 ++ D2 p.2.2)) := fun fuel cs x h => by
  obtain ⟨xs, n, _, _, hl, hx, hget⟩ := DataW.trod_struct ht h
  have hx2 : xs.length = 3 := hx
  have g0 := hget 0 f0 rfl
  have g1 := hget 1 f1 rfl
  have g2 := hget 2 f2 rfl
  rw [o0, c0] at g0
  rw [o1, c1] at g1
  rw [o2, c2] at g2
  obtain ⟨a, la, ha⟩ := opn_part h0 g0 (by rw [List.getElem?_eq_getElem (by omega)]; rfl)
  obtain ⟨b, lb, hb⟩ := opn_part h1 g1 (by rw [List.getElem?_eq_getElem (by omega)]; rfl)
  obtain ⟨c, lc, hc⟩ := opn_part h2 g2 (by rw [List.getElem?_eq_getElem (by omega)]; rfl)
  refine ⟨(a, b, c), by simp only [List.length_append]; omega, by rw [hl, hk], fun j z hz => ?_⟩
  dsimp only at hz
  by_cases e1 : j < k0
  · rw [List.getElem?_append_left (by omega)] at hz
    obtain ⟨v, hv, hr⟩ := ha j z hz
    exact ⟨v, by rwa [Nat.zero_add] at hv, hr⟩
  · rw [List.getElem?_append_right (by omega), la] at hz
    by_cases e2 : j - k0 < k1
    · rw [List.getElem?_append_left (by omega)] at hz
      obtain ⟨v, hv, hr⟩ := hb _ z hz
      exact ⟨v, by rwa [show k0 + (j - k0) = j by omega] at hv, hr⟩
    · rw [List.getElem?_append_right (by omega), lb] at hz
      obtain ⟨v, hv, hr⟩ := hc _ z hz
      exact ⟨v, by rwa [show k0 + k1 + (j - k0 - k1) = j by omega] at hv, hr⟩
theorem opn_arr3 {D : α → List AV} (g : α → AV) (hD : ∀ a, D a = [g a]) (ht : P.underlying t = some (.array 3 e)) (hk : P.cellsOf t = 3) (hc : P.cellsOf e = 1) (hE : Opn enc P w e 1 D) : Opn enc P w t 3 (fun p : α × α × α => [g p.1, g p.2.1, g p.2.2]) := fun fuel cs x h => by
  obtain ⟨xs, n, _, _, hl, hx, hget⟩ := DataW.trod_array ht h
  have hx2 : xs.length = 3 := hx
  have each : ∀ i, i < 3 → ∃ a : α, ∃ v, cs[i]? = some v ∧ Rp NoO w (g a) v := fun i hi => by
    have hg := hget i hi
    rw [hc, Nat.mul_one] at hg
    obtain ⟨a, _, ha⟩ := opn_part hE hg (by rw [List.getElem?_eq_getElem (by omega)]; rfl)
    obtain ⟨v, hv, hr⟩ := ha 0 (g a) (by rw [hD]; rfl)
    exact ⟨a, v, hv, hr⟩
  obtain ⟨a0, v0, k0, r0⟩ := each 0 (by omega)
  obtain ⟨a1, v1, k1, r1⟩ := each 1 (by omega)
  obtain ⟨a2, v2, k2, r2⟩ := each 2 (by omega)
  refine ⟨(a0, a1, a2), rfl, by rw [hl, hk], fun j c hc => ?_⟩
  match j, hc with
  | 0, hc => cases hc; exact ⟨v0, k0, r0⟩
  | 1, hc => cases hc; exact ⟨v1, k1, r1⟩
  | 2, hc => cases hc; exact ⟨v2, k2, r2⟩
end
section
variable {H : Type} {w : World} {enc : TypeId × Value → H} {base : Nat} {v : Value} {d : DataW H} {ps : List MemPlace}
theorem cells66 : Tryz.prog.cellsOf 66 = 1 := by kernel_rfl
theorem cells106 : Tryz.prog.cellsOf 106 = 3 := by kernel_rfl
theorem cells107 : Tryz.prog.cellsOf 107 = 3 := by kernel_rfl
theorem cells109 : Tryz.prog.cellsOf 109 = 1 + (3 + 3) := by kernel_rfl
theorem opn_66 : Opn enc Tryz.prog w 66 1 (fun l : List Lmk => [AV.sl 3 l.length (ints (flatL l))]) :=
  opn_map (fun l => l) (fun l => by rw [fm_ints]) (opn_slice Tryz.underlying66 cells87 (by decide) (fun _ => rfl) opn_lmk)
theorem opn_109 : Opn enc Tryz.prog w 109 (1 + (3 + 3)) (fun p : List Int × (Int × Int × Int) × (List Lmk × List Lmk × List Lmk) => [isl p.1] ++ ([iv p.2.1.1, iv p.2.1.2.1, iv p.2.1.2.2] ++ [AV.sl 3 p.2.2.1.length (ints (flatL p.2.2.1)), AV.sl 3 p.2.2.2.1.length (ints (flatL p.2.2.2.1)), AV.sl 3 p.2.2.2.2.length (ints (flatL p.2.2.2.2))])) :=
  opn_cat3 Tryz.underlying109 cells109 rfl rfl rfl cells22 cells106 cells107 opn_22 (opn_arr3 (fun n : Int => iv n) (fun _ => rfl) Tryz.underlying106 cells106 cells3 (opn_int Tryz.underlying3))
    (opn_arr3 (fun l : List Lmk => AV.sl 3 l.length (ints (flatL l))) (fun _ => rfl) Tryz.underlying107 cells107 cells66 opn_66)
theorem open_jc (hv : Value.okWide Tryz.prog w .any base 109 v) (h : DataW.Trod enc Tryz.prog w 0 (fun _ => true) true 109 v d ps) : ∃ (x : List Int) (e0 e1 e2 : Int) (D0 D1 D2 : List Lmk),
    Rp NoO w (.ag [isl x, iv e0, iv e1, iv e2, AV.sl 3 D0.length (ints (flatL D0)), AV.sl 3 D1.length (ints (flatL D1)), AV.sl 3 D2.length (ints (flatL D2))]) v ∧ True := by
  obtain ⟨us, rfl, _⟩ := okWide_struct Tryz.underlying109 hv
  obtain ⟨⟨x, ⟨e0, e1, e2⟩, D0, D1, D2⟩, hr⟩ := top_agg opn_109 h
  exact ⟨x, e0, e1, e2, D0, D1, D2, hr, trivial⟩
end
end Go.Proofs.YtabmhfmglhjmjaaGreatDoor

/- Parts of the proof, put together by a program. -/
import Derived.WalkKit
import Derived.ProofKit
import Derived.OpenShut
import Derived.Deep.Slices
import Derived.Test.YtabmhfmglhjmjaaGreatDoorUac
import Derived.Test.YtabmhfmglhjmjaaGreatDoorUad
import Derived.Test.YtabmhfmglhjmjaaGreatDoorUae
set_option linter.unusedSimpArgs false
set_option linter.unusedVariables false
set_option linter.unusedSectionVars false
set_option maxRecDepth 100000
namespace Go.Proofs.YtabmhfmglhjmjaaGreatDoor
open Go.ChangeShapes Go.WideShapes Go.ChangeAt Go.RowKit Go.Ab
attribute [local instance] drS
theorem ownK : ownKnob Tryz.prog.godebug = none := by kernel_rfl
theorem laidP : laidOutB Tryz.prog = true := by kernel_rfl
theorem cells3 : Tryz.prog.cellsOf 3 = 1 := by kernel_rfl
end Go.Proofs.YtabmhfmglhjmjaaGreatDoor
set_option linter.unusedSimpArgs false
set_option linter.unusedVariables false
set_option linter.unusedSectionVars false
set_option maxRecDepth 100000
namespace Go.Proofs.YtabmhfmglhjmjaaGreatDoor
open Go.ChangeShapes Go.WideShapes Go.ChangeAt Go.RowKit Go.Ab
attribute [local instance] drS
section
variable {H : Type} {P : Program} {w : World} {t e : TypeId} {α β γ δ : Type}
def Opn (enc : TypeId × Value → H) (P : Program) (w : World) (t : TypeId) {α : Type} (k : Nat) (D : α → List AV) : Prop :=
  ∀ fuel cs x, DataW.trod enc P w 0 (fun _ => true) true fuel t cs = some x → ∃ a : α, (D a).length = k ∧ cs.length = k ∧ ∀ (j : Nat) c, (D a)[j]? = some c → ∃ u, cs[j]? = some u ∧ Rp NoO w c u
variable {enc : TypeId × Value → H}
theorem opn_one {D : α → List AV} {y : AV} {u : Value} {a : α} (hD : D a = [y]) (h : Rp NoO w y u) : ∃ a : α, (D a).length = 1 ∧ [u].length = 1 ∧ ∀ (j : Nat) c, (D a)[j]? = some c → ∃ v, [u][j]? = some v ∧ Rp NoO w c v := by
  refine ⟨a, by rw [hD]; rfl, rfl, fun j c hc => ?_⟩
  rw [hD] at hc
  match j, hc with
  | 0, hc => cases hc; exact ⟨_, rfl, h⟩
theorem opn_int (ht : P.underlying t = some (.int .i64)) : Opn enc P w t 1 (fun n : Int => [iv n]) := fun fuel cs x h => by
  obtain ⟨n, rfl, _, _⟩ := DataW.trod_int ht h
  exact opn_one (a := n) rfl (.v _)
theorem cell_at7 {a : Addr} {v : Value} (h : w.cell? a = some v) : a.spot = none ∧ a.block < w.heap.size := by
  unfold World.cell? at h
  refine ⟨?_, ?_⟩
  · split at h
    · cases hs : a.spot with
      | none => rfl
      | some s => rw [hs] at h; simp at h
    · cases h
  · rcases Nat.lt_or_ge a.block w.heap.size with h' | h'
    · exact h'
    · rw [Array.getElem?_eq_none h'] at h; cases h
theorem opn_slice {k : Nat} {D : α → List AV} (ht : P.underlying t = some (.slice e)) (hk : P.cellsOf e = k) (h1 : 1 ≤ k) (hD : ∀ a, (D a).length = k) (he : Opn enc P w e k D) : Opn enc P w t 1 (fun l : List α => [.sl k l.length (l.flatMap D)]) := fun fuel cs x h => by
  rcases Go.Deep.open_slice ht h with ⟨rfl, _⟩ | ⟨a, len, cap, m, n, Dd, Pl, rfl, _, hl, _, hm, _, hx⟩
  · exact opn_one (a := ([] : List α)) rfl (.nla k none)
  · rw [if_pos rfl] at hm
    subst hm
    by_cases hcap : m = 0
    · subst hcap
      obtain rfl : len = 0 := by omega
      exact opn_one (a := ([] : List α)) rfl (.nla k (some a))
    · rw [hk] at hx
      obtain ⟨cs0, hc0, _⟩ := hx 0 (by omega)
      obtain ⟨_, hl0, hg0⟩ := World.cells?_some hc0
      have h0 := hg0 0 (by omega)
      rw [List.getElem?_eq_getElem (by omega)] at h0
      obtain ⟨hs, hb⟩ := cell_at7 h0
      obtain ⟨b, off, sp⟩ := a
      have hs' : sp = none := by simpa [Addr.add] using hs
      have hb' : b < w.heap.size := by simpa [Addr.add] using hb
      subst hs'
      have each : ∀ i : Fin len, ∃ y : α, ∀ (j : Nat) c, (D y)[j]? = some c → ∃ u, w.cell? ⟨b, off + (i.1 * k + j), none⟩ = some u ∧ Rp NoO w c u := fun i => by
        obtain ⟨cs', hc', ht'⟩ := hx i.1 (by have := i.2; omega)
        obtain ⟨_, hl', hg'⟩ := World.cells?_some hc'
        obtain ⟨y, hy, _, hyc⟩ := he _ _ _ ht'
        refine ⟨y, fun j c hc => ?_⟩
        obtain ⟨u, hu, hr⟩ := hyc j c hc
        have hj : j < k := by have := (List.getElem?_eq_some_iff.1 hc).1; omega
        have hg := hg' j (by omega)
        rw [hu, addr_add, addr_add] at hg
        rw [← Nat.add_assoc]
        exact ⟨u, hg, hr⟩
      have hll : (List.ofFn fun i : Fin len => (each i).choose).length = len := List.length_ofFn
      have hrp : Rp NoO w (.sl k len ((List.ofFn fun i : Fin len => (each i).choose).flatMap D)) (.slice (some ⟨b, off, none⟩) len m) := by
        refine Rp.mk_sl (fun h => h) hb' hl (by rw [fm_len hD, hll]) fun i c hi => ?_
        have hik : i < len * k := by
          have := (List.getElem?_eq_some_iff.1 hi).1
          rw [fm_len hD, hll] at this
          exact this
        have hq : i / k < len := Nat.div_lt_of_lt_mul (by rw [Nat.mul_comm]; exact hik)
        have hr : i % k < k := Nat.mod_lt _ (by omega)
        have e := Nat.div_add_mod i k
        rw [Nat.mul_comm] at e
        have hg := fm_get (c := D) (k := k) hD (l := List.ofFn fun i : Fin len => (each i).choose) (i := i / k) (j := i % k) (by rw [hll]; exact hq) hr
        rw [e, hi, List.getElem_ofFn] at hg
        have := (each ⟨i / k, hq⟩).choose_spec (i % k) c hg.symm
        dsimp only at this
        rw [e] at this
        exact this
      refine opn_one (a := List.ofFn fun i : Fin len => (each i).choose) rfl ?_
      rw [hll]
      exact hrp
theorem fld {D : α → List AV} {f : Field} {o : Nat} {cs : List Value} {n : Nat} {y : Option (DataW H × List MemPlace)} (g : α → AV) (hD : ∀ a, D a = [g a]) (ho : f.offset = o) (hc : P.cellsOf f.type = 1) (hE : Opn enc P w f.type 1 D)
    (h : DataW.trod enc P w 0 (fun _ => true) true n f.type ((cs.drop f.offset).take (P.cellsOf f.type)) = y) (hy : y.isSome = true) : ∃ a : α, ∃ u, cs[o]? = some u ∧ Rp NoO w (g a) u := by
  obtain ⟨z, rfl⟩ := Option.isSome_iff_exists.1 hy
  obtain ⟨a, _, hl, hg⟩ := hE _ _ _ h
  obtain ⟨u, hu, hr⟩ := hg 0 (g a) (by rw [hD]; rfl)
  rw [ho, hc] at hu
  refine ⟨a, u, ?_, hr⟩
  rw [List.getElem?_take_of_lt (by omega), List.getElem?_drop, Nat.add_zero] at hu
  exact hu
theorem opn_three {D0 : α → List AV} {D1 : β → List AV} {D2 : γ → List AV} {f0 f1 f2 : Field} (g0 : α → AV) (g1 : β → AV) (g2 : γ → AV) (e0 : ∀ a, D0 a = [g0 a]) (e1 : ∀ a, D1 a = [g1 a]) (e2 : ∀ a, D2 a = [g2 a]) (ht : P.underlying t = some (.struct #[f0, f1, f2])) (hk : P.cellsOf t = 3)
    (o0 : f0.offset = 0) (o1 : f1.offset = 1) (o2 : f2.offset = 2) (c0 : P.cellsOf f0.type = 1) (c1 : P.cellsOf f1.type = 1) (c2 : P.cellsOf f2.type = 1) (h0 : Opn enc P w f0.type 1 D0) (h1 : Opn enc P w f1.type 1 D1) (h2 : Opn enc P w f2.type 1 D2) : Opn enc P w t 3 (fun p : α × β × γ => [g0 p.1, g1 p.2.1, g2 p.2.2]) := fun fuel cs x h => by
  obtain ⟨xs, n, _, _, hl, hx, hget⟩ := DataW.trod_struct ht h
  have hx2 : xs.length = 3 := hx
  obtain ⟨a0, u0, k0, r0⟩ := fld g0 e0 o0 c0 h0 (hget 0 f0 rfl) (by rw [List.getElem?_eq_getElem (by omega)]; rfl)
  obtain ⟨a1, u1, k1, r1⟩ := fld g1 e1 o1 c1 h1 (hget 1 f1 rfl) (by rw [List.getElem?_eq_getElem (by omega)]; rfl)
  obtain ⟨a2, u2, k2, r2⟩ := fld g2 e2 o2 c2 h2 (hget 2 f2 rfl) (by rw [List.getElem?_eq_getElem (by omega)]; rfl)
  refine ⟨(a0, a1, a2), rfl, by rw [hl, hk], fun j c hc => ?_⟩
  match j, hc with
  | 0, hc => cases hc; exact ⟨u0, k0, r0⟩
  | 1, hc => cases hc; exact ⟨u1, k1, r1⟩
  | 2, hc => cases hc; exact ⟨u2, k2, r2⟩
theorem top_agg {D : α → List AV} {k : Nat} {us : Array Value} {d : DataW H} {ps : List MemPlace} (hE : Opn enc P w t k D) (h : DataW.Trod enc P w 0 (fun _ => true) true t (.agg us) d ps) : ∃ a : α, Rp NoO w (.ag (D a)) (.agg us) := by
  obtain ⟨fuel, hf⟩ := h
  obtain ⟨a, h1, h2, hg⟩ := hE _ _ _ hf
  have h2' : us.toList.length = k := h2
  have hg' : ∀ (i : Nat) (c : AV), (D a)[i]? = some c → us[i]? = some (us.toList.getD i default) ∧ Rp NoO w c (us.toList.getD i default) := fun i c hi => by
    obtain ⟨u, hu, hr⟩ := hg i c hi
    have hu' : us.toList[i]? = some u := hu
    rw [List.getD_eq_getElem?_getD, hu']
    exact ⟨by rw [← Array.getElem?_toList]; exact hu', hr⟩
  exact ⟨a, .ag _ _ (fun i => us.toList.getD i default) (by rw [h1, ← h2', Array.length_toList]) (fun i c hi => (hg' i c hi).1) (fun i c hi => (hg' i c hi).2)⟩
end
end Go.Proofs.YtabmhfmglhjmjaaGreatDoor
set_option linter.unusedSimpArgs false
set_option linter.unusedVariables false
set_option linter.unusedSectionVars false
set_option maxRecDepth 100000
namespace Go.Proofs.YtabmhfmglhjmjaaGreatDoor
open Go.ChangeShapes Go.WideShapes Go.ChangeAt Go.RowKit Go.Ab
attribute [local instance] drS
section
variable {H : Type} {P : Program} {w : World} {t e : TypeId} {α β : Type} {enc : TypeId × Value → H} {base : Nat} {v : Value} {d : DataW H} {ps : List MemPlace}
theorem opn_map {k : Nat} {D : α → List AV} {D' : β → List AV} (f : α → β) (h : ∀ a, D a = D' (f a)) (hE : Opn enc P w t k D) : Opn enc P w t k D' := fun fuel cs x hx => by
  obtain ⟨a, h1, h2, h3⟩ := hE _ _ _ hx
  rw [h] at h1
  refine ⟨f a, h1, h2, fun j c hc => h3 j c ?_⟩
  rw [h]; exact hc
theorem fm_sing {α β : Type} (f : α → β) : ∀ l : List α, (l.flatMap fun x => [f x]) = l.map f
  | [] => rfl
  | x :: l => by rw [List.flatMap_cons, fm_sing f l]; rfl
theorem opn_ints (ht : P.underlying t = some (.slice e)) (he : P.underlying e = some (.int .i64)) (hc : P.cellsOf e = 1) : Opn enc P w t 1 (fun xs : List Int => [isl xs]) :=
  opn_map (fun xs => xs) (fun xs => by unfold isl ints; rw [fm_sing]) (opn_slice ht hc (Nat.le_refl _) (fun _ => rfl) (opn_int he))
end
section
variable {H : Type} {w : World} {enc : TypeId × Value → H} {base : Nat} {v : Value} {d : DataW H} {ps : List MemPlace}
theorem cells22 : Tryz.prog.cellsOf 22 = 1 := by kernel_rfl
theorem cells87 : Tryz.prog.cellsOf 87 = 3 := by kernel_rfl
theorem opn_22 : Opn enc Tryz.prog w 22 1 (fun xs : List Int => [isl xs]) := opn_ints Tryz.underlying22 Tryz.underlying3 cells3
theorem opn_lmk : Opn enc Tryz.prog w 87 3 (fun x : Lmk => ints x.cells) :=
  opn_map (fun p : Int × Int × Int => (⟨p.1, p.2.1, p.2.2⟩ : Lmk)) (fun _ => rfl)
    (opn_three (fun n : Int => iv n) (fun n : Int => iv n) (fun n : Int => iv n) (fun _ => rfl) (fun _ => rfl) (fun _ => rfl) Tryz.underlying87 cells87 rfl rfl rfl cells3 cells3 cells3 (opn_int Tryz.underlying3) (opn_int Tryz.underlying3) (opn_int Tryz.underlying3))
theorem fm_ints : ∀ l : List Lmk, (l.flatMap fun x => ints x.cells) = ints (flatL l)
  | [] => rfl
  | x :: l => by rw [List.flatMap_cons, fm_ints l]; simp [flatL, ints]
end
end Go.Proofs.YtabmhfmglhjmjaaGreatDoor

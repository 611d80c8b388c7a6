/- Parts of the proof, put together by a program. -/
import Derived.Test.YtpdecefdhkhlnaaGreatDoorQar
set_option linter.unusedVariables false
set_option linter.unusedSimpArgs false
set_option linter.unusedSectionVars false
set_option maxRecDepth 100000
namespace Go.Proofs.YtpdecefdhkhlnaaGreatDoor
open Go.ChangeShapes Go.WideShapes Go.ChangeAt Go.RowKit Go.Ab
attribute [local instance] drS
theorem cells49 : Tryz.prog.cellsOf 49 = 6 := by kernel_rfl
theorem fin_six {zs : List Int} (h : zs.length = 6) : ∃ a b c d e f, zs = [a, b, c, d, e, f] := by
  match zs, h with
  | [a, b, c, d, e, f], _ => exact ⟨a, b, c, d, e, f, rfl⟩
theorem open_rules {H : Type} {enc : TypeId × Value → H} {w : World} {base : Nat} {v : Value} {d : DataW H} {ps : List MemPlace} (hv : Value.okWide Tryz.prog w .any base 49 v) (h : DataW.Trod enc Tryz.prog w 0 (fun _ => true) true 49 v d ps) :
    ∃ k x t j m p : Int, Rp NoO w (.ag [iv k, iv x, iv t, iv j, iv m, iv p]) v ∧ I64L [k, x, t, j, m, p] := by
  obtain ⟨zs, hz, hr, hI⟩ := open_recI Tryz.underlying49 (by rw [cells49]; rfl) (fun i f hf => by
    have hi : i < 6 := (Array.getElem?_eq_some_iff.1 hf).1
    match i, hi with
    | 0, _ => cases hf; exact ⟨rfl, Tryz.underlying3, cells3⟩
    | 1, _ => cases hf; exact ⟨rfl, Tryz.underlying3, cells3⟩
    | 2, _ => cases hf; exact ⟨rfl, Tryz.underlying3, cells3⟩
    | 3, _ => cases hf; exact ⟨rfl, Tryz.underlying3, cells3⟩
    | 4, _ => cases hf; exact ⟨rfl, Tryz.underlying3, cells3⟩
    | 5, _ => cases hf; exact ⟨rfl, Tryz.underlying3, cells3⟩) hv h
  obtain ⟨k, x, t, j, m, p, rfl⟩ := fin_six hz
  exact ⟨k, x, t, j, m, p, hr, hI⟩
theorem open_islC {P : Program} {H : Type} {enc : TypeId × Value → H} {w : World} {base fuel : Nat} {spare : Nat → Bool} {held : Bool} {t e : TypeId} {v : Value} {x : DataW H × List MemPlace} (ht : P.underlying t = some (.slice e)) (he : P.underlying e = some (.int .i64)) (hc : P.cellsOf e = 1)
    (hv : Cell.okWide P w .any base t v) (hf : DataW.trod enc P w 0 spare held fuel t [v] = some x) : ∃ xs : List Int, Rp NoO w (isl xs) v ∧ xs.length ≤ maxLen ∧ I64L xs := by
  have hvv : Value.okWide P w .any base t v := by unfold Value.okWide; rw [ht]; exact hv
  obtain ⟨a0, len, cap, rfl⟩ := okWide_slice ht hvv
  exact open_isl (d := x.1) (ps := x.2) ht he hc hvv ⟨fuel, hf⟩
theorem cells35 : Tryz.prog.cellsOf 35 = 3 := by kernel_rfl
theorem types35 : Tryz.prog.cellTypes Tryz.prog.depth 35 = some [3, 3, 22] := by kernel_rfl
theorem open_hum {H : Type} {enc : TypeId × Value → H} {w : World} {base : Nat} {v : Value} {d : DataW H} {ps : List MemPlace} (hv : Value.okWide Tryz.prog w .any base 35 v) (h : DataW.Trod enc Tryz.prog w 0 (fun _ => true) true 35 v d ps) :
    ∃ (p f : Int) (ts : List Int), Rp NoO w (.ag [iv p, iv f, isl ts]) v ∧ I64L [p, f] ∧ I64L ts := by
  have hv' := hv
  obtain ⟨cs, rfl, hcsz⟩ := okWide_struct Tryz.underlying35 hv
  obtain ⟨fuel, hf⟩ := h
  obtain ⟨xs, n, _, _, hlen, hx, hget⟩ := DataW.trod_struct Tryz.underlying35 hf
  rw [cells35] at hcsz
  obtain ⟨a, b, c, rfl⟩ : ∃ a b c : Value, cs = #[a, b, c] := by
    obtain ⟨l⟩ := cs
    match l, hcsz with
    | [a, b, c], _ => exact ⟨a, b, c, rfl⟩
  have hx3 : xs.length = 3 := hx
  obtain ⟨y0, y1, y2, rfl⟩ : ∃ y0 y1 y2, xs = [y0, y1, y2] := by
    match xs, hx3 with
    | [a, b, c], _ => exact ⟨a, b, c, rfl⟩
  have g0 := hget 0 _ rfl
  have g1 := hget 1 _ rfl
  have g2 := hget 2 _ rfl
  have g0' : DataW.trod enc Tryz.prog w 0 (fun _ => true) true n 3 [a] = some y0 := g0
  have g1' : DataW.trod enc Tryz.prog w 0 (fun _ => true) true n 3 [b] = some y1 := g1
  have g2' : DataW.trod enc Tryz.prog w 0 (fun _ => true) true n 22 [c] = some y2 := g2
  obtain ⟨p, hp, _, wp⟩ := DataW.trod_int Tryz.underlying3 g0'
  obtain ⟨f, hf', _, wf⟩ := DataW.trod_int Tryz.underlying3 g1'
  simp only [List.cons.injEq, and_true] at hp hf'
  subst hp hf'
  unfold Value.okWide at hv'
  rw [Tryz.underlying35] at hv'
  obtain ⟨cs', hcs', _, hrow⟩ := hv'
  cases hcs'
  obtain ⟨ts, hts, _, hcell⟩ := hrow
  rw [types35] at hts
  cases hts
  obtain ⟨u, hu, hok⟩ := hcell 2 c rfl
  have hu' : u = 22 := by simpa using hu.symm
  subst hu'
  obtain ⟨zs, hz, _, hzI⟩ := open_islC Tryz.underlying22 Tryz.underlying3 cells3 hok g2'
  refine ⟨p, f, zs, ?_, fun z hz => ?_, hzI⟩
  · refine .ag _ _ (fun i => if i = 0 then .int .i64 p else if i = 1 then .int .i64 f else c) rfl (fun i q hi => ?_) (fun i q hi => ?_)
    · match i, hi with
      | 0, _ => rfl
      | 1, _ => rfl
      | 2, _ => rfl
      | k + 3, hi => simp at hi
    · match i, hi with
      | 0, hi => cases hi; exact .v _
      | 1, hi => cases hi; exact .v _
      | 2, hi => cases hi; exact hz
      | k + 3, hi => simp at hi
  · simp only [List.mem_cons, List.not_mem_nil, or_false] at hz
    rcases hz with rfl | rfl
    · simpa [Lit.wf, IntKind.min, IntKind.max, IntKind.signed, IntKind.bits, I64] using wp
    · simpa [Lit.wf, IntKind.min, IntKind.max, IntKind.signed, IntKind.bits, I64] using wf
theorem open_str {H : Type} {enc : TypeId × Value → H} {w : World} {base : Nat} {v : Value} {d : DataW H} {ps : List MemPlace} (hv : Value.okWide Tryz.prog w .any base 9 v) (h : DataW.Trod enc Tryz.prog w 0 (fun _ => true) true 9 v d ps) : ∃ s : ByteArray, Rp NoO w (.v (.string s)) v ∧ True := by
  obtain ⟨s, rfl⟩ := okWide_string Tryz.underlying9 hv
  exact ⟨s, .v _, trivial⟩
end Go.Proofs.YtpdecefdhkhlnaaGreatDoor

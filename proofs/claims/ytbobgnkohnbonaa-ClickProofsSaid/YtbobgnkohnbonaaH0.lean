/- What all statements of this chapter share: closed facts of the program; arguments of the kinds that occur. -/
import Derived.Test.YtbobgnkohnbonaaAbC
import Derived.Test.YtbobgnkohnbonaaEnv
import Derived.WalkKit
import Derived.ProofKit
import Derived.OpenShut
set_option linter.unusedSimpArgs false
set_option linter.unusedVariables false
set_option maxRecDepth 100000
namespace Go.Proofs.Ytbobgnkohnbonaa
open Go.ChangeShapes Go.WideShapes Go.ChangeAt Go.RowKit Go.Ab

theorem ownK : ownKnob Try.prog.godebug = none := by kernel_rfl
theorem laidP : laidOutB Try.prog = true := by kernel_rfl
theorem cells3 : Try.prog.cellsOf 3 = 1 := by kernel_rfl
theorem cells41 : Try.prog.cellsOf 41 = 6 := by kernel_rfl

theorem fin_six {zs : List Int} (h : zs.length = 6) : ∃ a b c d e f, zs = [a, b, c, d, e, f] := by
  match zs, h with
  | [a, b, c, d, e, f], _ => exact ⟨a, b, c, d, e, f, rfl⟩

theorem open_rules {H : Type} {enc : TypeId × Value → H} {w : World} {base : Nat} {v : Value} {d : DataW H} {ps : List MemPlace} (hv : Value.okWide Try.prog w .any base 41 v) (h : DataW.Trod enc Try.prog w 0 (fun _ => true) true 41 v d ps) :
    ∃ k x t j m p : Int, Rp NoO w (.ag [iv k, iv x, iv t, iv j, iv m, iv p]) v ∧ I64L [k, x, t, j, m, p] := by
  obtain ⟨zs, hz, hr, hI⟩ := open_recI Try.underlying41 (by rw [cells41]; rfl) (fun i f hf => by
    have hi : i < 6 := (Array.getElem?_eq_some_iff.1 hf).1
    match i, hi with
    | 0, _ => cases hf; exact ⟨rfl, Try.underlying3, cells3⟩
    | 1, _ => cases hf; exact ⟨rfl, Try.underlying3, cells3⟩
    | 2, _ => cases hf; exact ⟨rfl, Try.underlying3, cells3⟩
    | 3, _ => cases hf; exact ⟨rfl, Try.underlying3, cells3⟩
    | 4, _ => cases hf; exact ⟨rfl, Try.underlying3, cells3⟩
    | 5, _ => cases hf; exact ⟨rfl, Try.underlying3, cells3⟩) hv h
  obtain ⟨k, x, t, j, m, p, rfl⟩ := fin_six hz
  exact ⟨k, x, t, j, m, p, hr, hI⟩
theorem open_x {H : Type} {enc : TypeId × Value → H} {w : World} {base : Nat} {v : Value} {d : DataW H} {ps : List MemPlace} (hv : Value.okWide Try.prog w .any base 22 v) (h : DataW.Trod enc Try.prog w 0 (fun _ => true) true 22 v d ps) :
    ∃ xs : List Int, Rp NoO w (isl xs) v ∧ I64L xs := by
  obtain ⟨xs, h1, _, h2⟩ := open_isl Try.underlying22 Try.underlying3 cells3 hv h
  exact ⟨xs, h1, h2⟩
end Go.Proofs.Ytbobgnkohnbonaa
/- Arguments that are hums. -/
set_option linter.unusedVariables false
set_option linter.unusedSimpArgs false
set_option maxRecDepth 100000
namespace Go.Proofs.Ytbobgnkohnbonaa
open Go.ChangeShapes Go.WideShapes Go.ChangeAt Go.RowKit Go.Ab

/-- A slice of numbers in a cell. -/
theorem open_islC {P : Program} {H : Type} {enc : TypeId × Value → H} {w : World} {base fuel : Nat} {spare : Nat → Bool} {held : Bool} {t e : TypeId} {v : Value} {x : DataW H × List MemPlace} (ht : P.underlying t = some (.slice e)) (he : P.underlying e = some (.int .i64)) (hc : P.cellsOf e = 1)
    (hv : Cell.okWide P w .any base t v) (hf : DataW.trod enc P w 0 spare held fuel t [v] = some x) : ∃ xs : List Int, Rp NoO w (isl xs) v ∧ xs.length ≤ maxLen ∧ I64L xs := by
  have hvv : Value.okWide P w .any base t v := by unfold Value.okWide; rw [ht]; exact hv
  obtain ⟨a0, len, cap, rfl⟩ := okWide_slice ht hvv
  exact open_isl (d := x.1) (ps := x.2) ht he hc hvv ⟨fuel, hf⟩

theorem cells63 : Try.prog.cellsOf 63 = 3 := by kernel_rfl
theorem cells22 : Try.prog.cellsOf 22 = 1 := by kernel_rfl
theorem types63 : Try.prog.cellTypes Try.prog.depth 63 = some [3, 3, 22] := by kernel_rfl

theorem open_hum {H : Type} {enc : TypeId × Value → H} {w : World} {base : Nat} {v : Value} {d : DataW H} {ps : List MemPlace} (hv : Value.okWide Try.prog w .any base 63 v) (h : DataW.Trod enc Try.prog w 0 (fun _ => true) true 63 v d ps) :
    ∃ (p f : Int) (ts : List Int), Rp NoO w (.ag [iv p, iv f, isl ts]) v ∧ I64L [p, f] := by
  have hv' := hv
  obtain ⟨cs, rfl, hcsz⟩ := okWide_struct Try.underlying63 hv
  obtain ⟨fuel, hf⟩ := h
  obtain ⟨xs, n, _, _, hlen, hx, hget⟩ := DataW.trod_struct Try.underlying63 hf
  rw [cells63] at hcsz
  obtain ⟨a, b, c, rfl⟩ : ∃ a b c : Value, cs = #[a, b, c] := by
    obtain ⟨l⟩ := cs
    match l, hcsz with
    | [a, b, c], _ => exact ⟨a, b, c, rfl⟩
  have hx3 : xs.length = 3 := hx
  obtain ⟨y0, y1, y2, rfl⟩ : ∃ y0 y1 y2, xs = [y0, y1, y2] := by
    match xs, hx3 with
    | [a, b, c], _ => exact ⟨a, b, c, rfl⟩
  have g0 := hget 0 _ rfl
  have g1 := hget 1 _ rfl
  have g2 := hget 2 _ rfl

  have g0' : DataW.trod enc Try.prog w 0 (fun _ => true) true n 3 [a] = some y0 := g0
  have g1' : DataW.trod enc Try.prog w 0 (fun _ => true) true n 3 [b] = some y1 := g1
  have g2' : DataW.trod enc Try.prog w 0 (fun _ => true) true n 22 [c] = some y2 := g2
  obtain ⟨p, hp, _, wp⟩ := DataW.trod_int Try.underlying3 g0'
  obtain ⟨f, hf', _, wf⟩ := DataW.trod_int Try.underlying3 g1'
  simp only [List.cons.injEq, and_true] at hp hf'
  subst hp hf'
  unfold Value.okWide at hv'
  rw [Try.underlying63] at hv'
  obtain ⟨cs', hcs', _, hrow⟩ := hv'
  cases hcs'
  obtain ⟨ts, hts, _, hcell⟩ := hrow
  rw [types63] at hts
  cases hts
  obtain ⟨u, hu, hok⟩ := hcell 2 c rfl
  have hu' : u = 22 := by simpa using hu.symm
  subst hu'
  obtain ⟨zs, hz, _, _⟩ := open_islC Try.underlying22 Try.underlying3 cells3 hok g2'
  refine ⟨p, f, zs, ?_, fun z hz => ?_⟩
  · refine .ag _ _ (fun i => if i = 0 then .int .i64 p else if i = 1 then .int .i64 f else c) rfl (fun i q hi => ?_) (fun i q hi => ?_)
    · match i, hi with
      | 0, _ => rfl
      | 1, _ => rfl
      | 2, _ => rfl
      | k + 3, hi => simp at hi
    · match i, hi with
      | 0, hi => cases hi; exact .v _
      | 1, hi => cases hi; exact .v _
      | 2, hi => cases hi; exact hz
      | k + 3, hi => simp at hi
  · simp only [List.mem_cons, List.not_mem_nil, or_false] at hz
    rcases hz with rfl | rfl
    · simpa [Lit.wf, IntKind.min, IntKind.max, IntKind.signed, IntKind.bits, I64] using wp
    · simpa [Lit.wf, IntKind.min, IntKind.max, IntKind.signed, IntKind.bits, I64] using wf
end Go.Proofs.Ytbobgnkohnbonaa
/- Arguments that are ranges, or numbers. -/
set_option linter.unusedVariables false
set_option linter.unusedSimpArgs false
set_option maxRecDepth 100000
namespace Go.Proofs.Ytbobgnkohnbonaa
open Go.ChangeShapes Go.WideShapes Go.ChangeAt Go.RowKit Go.Ab

theorem cells58 : Try.prog.cellsOf 58 = 2 := by kernel_rfl

theorem open_range {H : Type} {enc : TypeId × Value → H} {w : World} {base : Nat} {v : Value} {d : DataW H} {ps : List MemPlace} (hv : Value.okWide Try.prog w .any base 58 v) (h : DataW.Trod enc Try.prog w 0 (fun _ => true) true 58 v d ps) :
    ∃ lo hi : Int, Rp NoO w (.ag [iv lo, iv hi]) v ∧ I64L [lo, hi] := by
  obtain ⟨zs, hz, hr, hI⟩ := open_recI Try.underlying58 (by rw [cells58]; rfl) (fun i f hf => by
    have hi : i < 2 := (Array.getElem?_eq_some_iff.1 hf).1
    match i, hi with
    | 0, _ => cases hf; exact ⟨rfl, Try.underlying3, cells3⟩
    | 1, _ => cases hf; exact ⟨rfl, Try.underlying3, cells3⟩) hv h
  obtain ⟨a, b, rfl⟩ : ∃ a b, zs = [a, b] := by
    match zs, hz with
    | [a, b], _ => exact ⟨a, b, rfl⟩
  exact ⟨a, b, hr, hI⟩

theorem open_n {H : Type} {enc : TypeId × Value → H} {w : World} {base : Nat} {v : Value} {d : DataW H} {ps : List MemPlace} (hv : Value.okWide Try.prog w .any base 3 v) (h : DataW.Trod enc Try.prog w 0 (fun _ => true) true 3 v d ps) :
    ∃ n : Int, Rp NoO w (iv n) v ∧ I64L [n] := by
  obtain ⟨n, rfl⟩ := okWide_int Try.underlying3 hv
  obtain ⟨fuel, hf⟩ := h
  obtain ⟨k, hk, _, hw⟩ := DataW.trod_int Try.underlying3 hf
  have hk' : [Value.int .i64 n] = [Value.int .i64 k] := hk
  simp only [List.cons.injEq, Value.int.injEq, true_and, and_true] at hk'
  subst hk'
  refine ⟨n, .v _, fun z hz => ?_⟩
  simp only [List.mem_cons, List.not_mem_nil, or_false] at hz
  subst hz
  simpa [Lit.wf, IntKind.min, IntKind.max, IntKind.signed, IntKind.bits, I64] using hw
end Go.Proofs.Ytbobgnkohnbonaa
/- Arguments that are periods, repeated. -/
set_option linter.unusedVariables false
set_option linter.unusedSimpArgs false
set_option maxRecDepth 100000
namespace Go.Proofs.Ytbobgnkohnbonaa
open Go.ChangeShapes Go.WideShapes Go.ChangeAt Go.RowKit Go.Ab

theorem cells72 : Try.prog.cellsOf 72 = 2 := by kernel_rfl
theorem types72 : Try.prog.cellTypes Try.prog.depth 72 = some [22, 3] := by kernel_rfl

theorem open_rep {H : Type} {enc : TypeId × Value → H} {w : World} {base : Nat} {v : Value} {d : DataW H} {ps : List MemPlace} (hv : Value.okWide Try.prog w .any base 72 v) (h : DataW.Trod enc Try.prog w 0 (fun _ => true) true 72 v d ps) :
    ∃ (ts : List Int) (p : Int), Rp NoO w (.ag [isl ts, iv p]) v ∧ I64L [p] := by
  have hv' := hv
  obtain ⟨cs, rfl, hcsz⟩ := okWide_struct Try.underlying72 hv
  obtain ⟨fuel, hf⟩ := h
  obtain ⟨xs, n, _, _, hlen, hx, hget⟩ := DataW.trod_struct Try.underlying72 hf
  rw [cells72] at hcsz
  obtain ⟨a, b, rfl⟩ : ∃ a b : Value, cs = #[a, b] := by
    obtain ⟨l⟩ := cs
    match l, hcsz with
    | [a, b], _ => exact ⟨a, b, rfl⟩
  have hx2 : xs.length = 2 := hx
  obtain ⟨y0, y1, rfl⟩ : ∃ y0 y1, xs = [y0, y1] := by
    match xs, hx2 with
    | [a, b], _ => exact ⟨a, b, rfl⟩
  have g0 := hget 0 _ rfl
  have g1 := hget 1 _ rfl
  have g0' : DataW.trod enc Try.prog w 0 (fun _ => true) true n 22 [a] = some y0 := g0
  have g1' : DataW.trod enc Try.prog w 0 (fun _ => true) true n 3 [b] = some y1 := g1
  obtain ⟨p, hp, _, wp⟩ := DataW.trod_int Try.underlying3 g1'
  simp only [List.cons.injEq, and_true] at hp
  subst hp
  unfold Value.okWide at hv'
  rw [Try.underlying72] at hv'
  obtain ⟨cs', hcs', _, hrow⟩ := hv'
  cases hcs'
  obtain ⟨ts, hts, _, hcell⟩ := hrow
  rw [types72] at hts
  cases hts
  obtain ⟨u, hu, hok⟩ := hcell 0 a rfl
  have hu' : u = 22 := by simpa using hu.symm
  subst hu'
  obtain ⟨zs, hz, _, _⟩ := open_islC Try.underlying22 Try.underlying3 cells3 hok g0'
  refine ⟨zs, p, ?_, fun z hz => ?_⟩
  · refine .ag _ _ (fun i => if i = 0 then a else .int .i64 p) rfl (fun i q hi => ?_) (fun i q hi => ?_)
    · match i, hi with
      | 0, _ => rfl
      | 1, _ => rfl
      | k + 2, hi => simp at hi
    · match i, hi with
      | 0, hi => cases hi; exact hz
      | 1, hi => cases hi; exact .v _
      | k + 2, hi => simp at hi
  · simp only [List.mem_cons, List.not_mem_nil, or_false] at hz
    subst hz
    simpa [Lit.wf, IntKind.min, IntKind.max, IntKind.signed, IntKind.bits, I64] using wp
end Go.Proofs.Ytbobgnkohnbonaa

/- What the reference of transfers and tasks computes, in the words of the program's. -/
import Derived.Test.YtabmhfmglhjmjaaGreatDoorS07d
set_option linter.unusedVariables false
set_option linter.unusedSimpArgs false
set_option linter.unusedSectionVars false
namespace Go.Proofs.YtabmhfmglhjmjaaGreatDoor
open Go.Ab
attribute [local instance] drS
theorem mid_odd {xs : List Int} {n : Nat} (hn : xs.length = n) (h : n % 2 = 1) : mid xs = gi (sorted xs) ((n / 2 : Nat) : Int) := by
  unfold mid
  rw [hn, show ((n : Int) - 1) / 2 = ((n / 2 : Nat) : Int) by omega, show (n : Int) / 2 = ((n / 2 : Nat) : Int) by omega]
  omega
theorem mid_even {xs : List Int} {n : Nat} (hn : xs.length = n) (h1 : 1 ≤ n) (h : n % 2 = 0) : mid xs = (gi (sorted xs) (((n / 2 : Nat) : Int) - 1) + gi (sorted xs) ((n / 2 : Nat) : Int)) / 2 := by
  unfold mid
  rw [hn, show ((n : Int) - 1) / 2 = ((n / 2 : Nat) : Int) - 1 by omega, show (n : Int) / 2 = ((n / 2 : Nat) : Int) by omega]
def anyC (ts : List Tf) (g k n : Nat) : Bool := (List.range n).any (cov ts g k)
theorem anyC_succ (ts : List Tf) (g k n : Nat) : anyC ts g k (n + 1) = (anyC ts g k n || cov ts g k n) := by
  unfold anyC
  rw [List.range_succ, List.any_append]
  simp
theorem anyC_gap {ts : List Tf} (h : TfOk ts) (g k : Nat) : gap7 ts g k = !anyC ts g k ts.length := by
  rw [Bool.eq_iff_iff]
  unfold gap7 anyC devRow
  simp only [List.all_map, List.all_eq_true, List.mem_range, Function.comp, Bool.not_eq_true', List.any_eq_false]
  refine ⟨fun h2 i hi => ?_, fun h2 i hi => ?_⟩
  · have h3 := h2 i hi
    unfold dvn at h3
    cases hc : cov ts g k i
    · simp
    · rw [hc, cond_true] at h3
      have h4 := (dvTo_bound h hi g k g).1
      simp at h3
      omega
  · have h3 := h2 i hi
    unfold dvn
    rw [show cov ts g k i = false by simpa using h3]
    rfl
theorem dvn_cov {ts : List Tf} (h : TfOk ts) {g k i : Nat} (hi : i < ts.length) : (dvn ts g k i != -1) = cov ts g k i := by
  unfold dvn
  cases hc : cov ts g k i
  · rfl
  · have h4 := (dvTo_bound h hi g k g).1
    rw [cond_true, bne_iff_ne]
    omega
end Go.Proofs.YtabmhfmglhjmjaaGreatDoor
set_option linter.unusedVariables false
set_option linter.unusedSimpArgs false
set_option linter.unusedSectionVars false
namespace Go.Proofs.YtabmhfmglhjmjaaGreatDoor
open Go.Ab
attribute [local instance] drS
def lsB (b : Int) : Int := bif b == -1 then 0 else b
def nxI (nm : Nat → ByteArray) (ok : Nat → Bool) (f : Nat → Int) (i : Nat) : Int := match pk7 nm ok f i with
  | none => -1
  | some b => (b : Nat)
theorem nxI_skip {nm : Nat → ByteArray} {ok : Nat → Bool} {f : Nat → Int} {i : Nat} (h : ok i = false) : nxI nm ok f (i + 1) = nxI nm ok f i := by
  unfold nxI; rw [pk7, h]; rfl
theorem nxI_first {nm : Nat → ByteArray} {ok : Nat → Bool} {f : Nat → Int} {i : Nat} (h : ok i = true) (hp : pk7 nm ok f i = none) : nxI nm ok f i = -1 ∧ nxI nm ok f (i + 1) = (i : Nat) := by
  unfold nxI; rw [pk7, h, hp]; exact ⟨rfl, rfl⟩
theorem nxI_next {nm : Nat → ByteArray} {ok : Nat → Bool} {f : Nat → Int} {i b : Nat} (h : ok i = true) (hp : pk7 nm ok f i = some b) : nxI nm ok f i = (b : Nat) ∧ nxI nm ok f (i + 1) = bif decide (f i < f b) || (f i == f b && nmLt (nm i) (nm b)) then ((i : Nat) : Int) else (b : Nat) := by
  unfold nxI
  rw [pk7, h, hp]
  refine ⟨rfl, ?_⟩
  show (match (bif decide (f i < f b) || (f i == f b && nmLt (nm i) (nm b)) then some i else some b : Option Nat) with | none => (-1 : Int) | some b => (b : Nat)) = _
  cases decide (f i < f b) || (f i == f b && nmLt (nm i) (nm b)) <;> rfl
section
variable {dv : Nat → Nat → Int} {c : Int} {K T : Nat} {nm : Nat → ByteArray} {B : Int}
theorem nxI_end (h : Dp dv c K T nm B) {k : Nat} (hk : k < K) : nxI nm (okR dv c K T k) (val7 dv c K T nm k) T = (ch7 dv c K T nm k : Nat) := by
  obtain ⟨j0, hj0, hj1⟩ := h.some k hk
  have e : ch7 dv c K T nm k = (pk7 nm (okR dv c K T k) (val7 dv c K T nm k) T).getD 0 := by cases k <;> rfl
  rcases pk7_ok (nm := nm) (T := T) h.uniq (ok := okR dv c K T k) (f := val7 dv c K T nm k) T (Nat.le_refl _) with ⟨_, h2⟩ | ⟨b, h1, _⟩
  · have := h2 j0 hj0
    rw [(okR_iff h hk j0).2 hj1] at this
    cases this
  · unfold nxI
    rw [e, h1]
    rfl
theorem pk7_lt (h : Dp dv c K T nm B) {k i b : Nat} (hi : i ≤ T) (hp : pk7 nm (okR dv c K T k) (val7 dv c K T nm k) i = some b) : b < i ∧ okR dv c K T k b = true := by
  rcases pk7_ok (nm := nm) (T := T) h.uniq (ok := okR dv c K T k) (f := val7 dv c K T nm k) i hi with ⟨h1, _⟩ | ⟨b', h1, h2, h3, _⟩
  · rw [hp] at h1; cases h1
  · rw [hp] at h1; cases h1; exact ⟨h2, h3⟩
theorem rst_ref (h : Dp dv c K T nm B) {k i : Nat} (hk : k + 1 < K) (hd : dv k i ≠ -1) : bestN (okR dv c K T (k + 1)) (fun j => chg c i j + rst dv c K T (k + 1) j) T ≠ -1 ∧
    rst dv c K T k i = dv k i + bestN (okR dv c K T (k + 1)) (fun j => chg c i j + rst dv c K T (k + 1) j) T := by
  refine ⟨?_, ?_⟩
  · obtain ⟨j0, hj0, hj1⟩ := h.some (k + 1) hk
    have hnn : ∀ j, okR dv c K T (k + 1) j = true → 0 ≤ chg c i j + rst dv c K T (k + 1) j := fun j hj => by
      have h1 := rst_nonneg h hk ((okR_iff h hk j).1 hj)
      have h2 := chg_bound h.c0 i j
      omega
    rcases bestN_ok (ok := okR dv c K T (k + 1)) (f := fun j => chg c i j + rst dv c K T (k + 1) j) T (fun j _ hj => hnn j hj) with ⟨_, h5⟩ | ⟨j, h5, h6, h7, _⟩
    · have := h5 j0 hj0
      rw [(okR_iff h hk j0).2 hj1] at this
      cases this
    · rw [h7]
      have := hnn j h6
      omega
  · rw [rst_step hk, show (dv k i == -1) = false by simpa using hd, cond_false]
end
theorem holes_gaps {ts : List Tf} {n g c : Int} {K G : Nat} (hT : TkOk ts n g c K G) (hg : ∀ k, k < K → gap7 ts G k = false) : holes ts n.toNat = false := by
  rw [holes_false]
  intro p hp
  have hG := hT.G1
  have hKG : n.toNat = K * G := by
    have := hT.KG
    rw [← Int.natCast_mul] at this
    omega
  have hk : p / G < K := Nat.div_lt_of_lt_mul (by rw [Nat.mul_comm]; omega)
  have h1 := hg _ hk
  rw [anyC_gap hT.ok] at h1
  have h2 : anyC ts G (p / G) ts.length = true := by simpa using h1
  unfold anyC at h2
  rw [List.any_eq_true] at h2
  obtain ⟨i, hi, hc⟩ := h2
  have hq := cov_iff.1 hc (p % G) (Nat.mod_lt _ (by omega))
  rw [show p / G * G + p % G = p by rw [Nat.mul_comm]; exact Nat.div_add_mod p G] at hq
  have := colTo_pos hq ts.length (List.mem_range.1 hi)
  unfold hole col
  exact beq_false_of_ne (by omega)
end Go.Proofs.YtabmhfmglhjmjaaGreatDoor

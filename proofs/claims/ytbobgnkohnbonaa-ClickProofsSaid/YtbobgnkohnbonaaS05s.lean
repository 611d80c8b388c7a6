/- Chapter 5, plain: the equations of a mark, solved without fractions until the end. -/
import Derived.Test.YtbobgnkohnbonaaS05n
set_option linter.unusedSimpArgs false
set_option linter.unusedVariables false
namespace Go.Proofs.Ytbobgnkohnbonaa
open Go.Ab

/-! ### the divisor of a row -/
def gTo (raw : List Int) : Nat → Int
  | 0 => 0
  | k + 1 => (Int.gcd (gTo raw k) (gi raw (k : Nat)) : Int)
theorem gTo_nonneg (raw : List Int) : ∀ k, 0 ≤ gTo raw k
  | 0 => by simp [gTo]
  | k + 1 => by simp only [gTo]; exact Int.natCast_nonneg _
theorem gTo_dvd {raw : List Int} : ∀ {n k : Nat}, k < n → gTo raw n ∣ gi raw (k : Nat)
  | n + 1, k, h => by
    simp only [gTo]
    by_cases e : k = n
    · subst e; exact Int.gcd_dvd_right _ _
    · exact Int.dvd_trans (Int.gcd_dvd_left _ _) (gTo_dvd (show k < n by omega))
theorem dvd_gTo {raw : List Int} {d : Int} : ∀ {n : Nat}, (∀ k, k < n → d ∣ gi raw (k : Nat)) → d ∣ gTo raw n
  | 0, _ => by simp [gTo]
  | n + 1, h => by
    simp only [gTo]
    exact Int.dvd_coe_gcd (dvd_gTo fun k hk => h k (by omega)) (h n (by omega))
theorem dvd_mul_gTo {raw : List Int} {d s : Int} : ∀ {n : Nat}, (∀ k, k < n → d ∣ s * gi raw (k : Nat)) → d ∣ s * gTo raw n
  | 0, _ => by simp [gTo]
  | n + 1, h => by
    simp only [gTo]
    have h1 : d ∣ s * gTo raw n := dvd_mul_gTo fun k hk => h k (by omega)
    have h2 := h n (by omega)
    have h3 : d ∣ (Int.gcd (s * gTo raw n) (s * gi raw (n : Nat)) : Int) := Int.dvd_coe_gcd h1 h2
    rw [Int.gcd_mul_left, Int.natCast_mul] at h3
    rcases Int.natAbs_eq s with e | e
    · rw [← e] at h3; exact h3
    · have : ((s.natAbs : Nat) : Int) = -s := by omega
      rw [this, Int.neg_mul] at h3
      exact Int.dvd_neg.1 h3
theorem gTo_abs {raw : List Int} {B : Int} (hB : 0 ≤ B) (h : ∀ k : Nat, -B ≤ gi raw k ∧ gi raw k ≤ B) : ∀ n, gTo raw n ≤ B
  | 0 => by simpa [gTo] using hB
  | n + 1 => by
    have h1 := gTo_abs hB h n
    have h0 := gTo_nonneg raw n
    have hk := h n
    simp only [gTo]
    by_cases hz : gi raw (n : Nat) = 0
    · rw [hz, Int.gcd_zero_right]; omega
    · have h2 : (Int.gcd (gTo raw n) (gi raw (n : Nat)) : Int) ∣ ((gi raw (n : Nat)).natAbs : Int) := Int.dvd_natAbs.2 (Int.gcd_dvd_right _ _)
      have := Int.le_of_dvd (by omega) h2
      omega

/-! ### the rows -/
def rawRow (a b : Int) (ri rc : List Int) : List Int := List.zipWith (fun x y => a * x - b * y) ri rc
def gjRow (a b : Int) (ri rc : List Int) : List Int :=
  bif decide (1 < gTo (rawRow a b ri rc) (rawRow a b ri rc).length) then (rawRow a b ri rc).map (fun x => x.tdiv (gTo (rawRow a b ri rc) (rawRow a b ri rc).length)) else rawRow a b ri rc
/-- Row i, when so many columns are done. -/
def gjV (V0 : Nat → List Int) : Nat → Nat → List Int
  | 0, i => V0 i
  | c + 1, i => bif decide (i = c) || decide (gi (gjV V0 c i) (c : Nat) = 0) then gjV V0 c i else gjRow (gi (gjV V0 c c) (c : Nat)) (gi (gjV V0 c i) (c : Nat)) (gjV V0 c i) (gjV V0 c c)
theorem rawRow_len {a b : Int} {ri rc : List Int} (h : ri.length = rc.length) : (rawRow a b ri rc).length = ri.length := by simp [rawRow, h]
theorem gjRow_len {a b : Int} {ri rc : List Int} (h : ri.length = rc.length) : (gjRow a b ri rc).length = ri.length := by
  unfold gjRow
  cases decide (1 < gTo (rawRow a b ri rc) (rawRow a b ri rc).length)
  · exact rawRow_len h
  · rw [cond_true, List.length_map]; exact rawRow_len h
theorem gjV_len {V0 : Nat → List Int} {n : Nat} (h : ∀ i, i < n → (V0 i).length = n + 1) : ∀ c, c ≤ n → ∀ i, i < n → (gjV V0 c i).length = n + 1
  | 0, _, i, hi => h i hi
  | c + 1, hc, i, hi => by
    have h1 := gjV_len h c (by omega) i hi
    have h2 := gjV_len h c (by omega) c (by omega)
    simp only [gjV]
    cases decide (i = c) || decide (gi (gjV V0 c i) (c : Nat) = 0)
    · rw [cond_false, gjRow_len (by rw [h1, h2]), h1]
    · exact h1

/-! ### left sides alone -/
def primRow (c : Nat) (rc rr : List Int) : List Int := (rawRow (gi rc (c : Nat)) (gi rr (c : Nat)) rr rc).map fun x => x / gTo (rawRow (gi rc (c : Nat)) (gi rr (c : Nat)) rr rc) (rawRow (gi rc (c : Nat)) (gi rr (c : Nat)) rr rc).length
def primOk (n c : Nat) (rc rr rn : List Int) : Bool :=
  decide (0 < gTo (rawRow (gi rc (c : Nat)) (gi rr (c : Nat)) rr rc) n) && decide (rawRow (gi rc (c : Nat)) (gi rr (c : Nat)) rr rc = rn.map fun x => gTo (rawRow (gi rc (c : Nat)) (gi rr (c : Nat)) rr rc) n * x) && decide (gTo rn n = 1)
def gnext (c : Nat) (rc : List Int) : Nat → List (List Int) → List (List Int)
  | _, [] => []
  | i, rr :: M => (bif Nat.beq i c || decide (gi rr (c : Nat) = 0) then rr else primRow c rc rr) :: gnext c rc (i + 1) M
def gexact (n c : Nat) (rc : List Int) : Nat → List (List Int) → List (List Int) → Bool
  | i, rr :: M, rn :: M' => (bif Nat.beq i c || decide (gi rr (c : Nat) = 0) then true else primOk n c rc rr rn) && gexact n c rc (i + 1) M M'
  | _, _, _ => true
def gstg (M0 : List (List Int)) : Nat → List (List Int)
  | 0 => M0
  | c + 1 => gnext c ((gstg M0 c).getD c []) 0 (gstg M0 c)
def gchk (n : Nat) (B : Int) (fin : List (List Int) → Bool) : Nat → Nat → List (List Int) → Bool
  | 0, c, M => smallM B n M && Nat.beq M.length n && fin M
  | f + 1, c, M => smallM B n M && Nat.beq M.length n && gexact n c (M.getD c []) 0 M (gnext c (M.getD c []) 0 M) && gchk n B fin f (c + 1) (gnext c (M.getD c []) 0 M)
theorem gchk_ok {n : Nat} {B : Int} {fin : List (List Int) → Bool} {M0 : List (List Int)} : ∀ (f c : Nat), gchk n B fin f c (gstg M0 c) = true →
    (∀ t, t ≤ f → smallM B n (gstg M0 (c + t)) = true ∧ (gstg M0 (c + t)).length = n) ∧ (∀ t, t < f → gexact n (c + t) ((gstg M0 (c + t)).getD (c + t) []) 0 (gstg M0 (c + t)) (gstg M0 (c + t + 1)) = true) ∧ fin (gstg M0 (c + f)) = true
  | 0, c, h => by
    simp only [gchk, Bool.and_eq_true] at h
    obtain ⟨⟨h1, h2⟩, h3⟩ := h
    refine ⟨fun t ht => ?_, fun t ht => absurd ht (by omega), h3⟩
    obtain rfl : t = 0 := by omega
    exact ⟨h1, Nat.eq_of_beq_eq_true h2⟩
  | f + 1, c, h => by
    simp only [gchk, Bool.and_eq_true] at h
    obtain ⟨⟨⟨h1, h2⟩, h3⟩, h4⟩ := h
    obtain ⟨k1, k2, k3⟩ := gchk_ok f (c + 1) h4
    refine ⟨fun t ht => ?_, fun t ht => ?_, ?_⟩
    · cases t with
      | zero => exact ⟨h1, Nat.eq_of_beq_eq_true h2⟩
      | succ t => have := k1 t (by omega); rw [show c + (t + 1) = c + 1 + t by omega]; exact this
    · cases t with
      | zero => exact h3
      | succ t => have := k2 t (by omega); rw [show c + (t + 1) = c + 1 + t by omega]; exact this
    · rw [show c + (f + 1) = c + 1 + f by omega]; exact k3
theorem gnext_get {c : Nat} {rc : List Int} : ∀ {M : List (List Int)} {s i : Nat} {r : List Int}, M[i]? = some r → (gnext c rc s M)[i]? = some (bif Nat.beq (s + i) c || decide (gi r (c : Nat) = 0) then r else primRow c rc r)
  | [], s, i, r, h => by simp at h
  | q :: M, s, 0, r, h => by simp at h; subst h; rfl
  | q :: M, s, i + 1, r, h => by
    simp only [List.getElem?_cons_succ] at h
    simp only [gnext, List.getElem?_cons_succ]
    rw [gnext_get (s := s + 1) h, show s + 1 + i = s + (i + 1) by omega]
theorem gexact_get {n c : Nat} {rc : List Int} : ∀ {M M' : List (List Int)} {s i : Nat} {r r' : List Int}, gexact n c rc s M M' = true → M[i]? = some r → M'[i]? = some r' → (Nat.beq (s + i) c || decide (gi r (c : Nat) = 0)) = false → primOk n c rc r r' = true
  | [], _, s, i, r, r', h, h1, _, _ => by simp at h1
  | _ :: _, [], s, i, r, r', h, _, h2, _ => by simp at h2
  | q :: M, q' :: M', s, 0, r, r', h, h1, h2, hc => by
    simp at h1 h2
    subst h1; subst h2
    simp only [gexact, Bool.and_eq_true] at h
    rw [Nat.add_zero] at hc
    rw [hc, cond_false] at h
    exact h.1
  | q :: M, q' :: M', s, i + 1, r, r', h, h1, h2, hc => by
    simp only [List.getElem?_cons_succ] at h1 h2
    simp only [gexact, Bool.and_eq_true] at h
    exact gexact_get h.2 h1 h2 (by rw [show s + 1 + i = s + (i + 1) by omega]; exact hc)

/-- Left sides of the equations. -/
def leftL (a c n : Nat) : List (List Int) := (List.range n).map fun r => (List.range n).map fun p => matA a c n r p
def maxAbs (M : List (List Int)) : Int := M.foldl (fun m r => r.foldl (fun m x => max m (x.natAbs : Int)) m) 0
def mBound (a c n : Nat) : Int := (List.range (n + 1)).foldl (fun m t => max m (maxAbs (gstg (leftL a c n) t))) 0
def absSum (r : List Int) : Int := r.foldl (fun m x => m + (x.natAbs : Int)) 0
def yBound (d : Int) (S : List (List Int)) : Int := S.foldl (fun m r => max m (absSum r / d + 1)) 0
def unitM (n : Nat) (M : List (List Int)) : Bool := allN n fun i => decide (gi (rowL M i) (i : Nat) ≠ 0) && allN n fun k => Nat.beq k i || decide (gi (rowL M i) (k : Nat) = 0)
def goodGB (B Y d : Int) (S : List (List Int)) (a c n : Nat) : Bool :=
  gchk n B (unitM n) n 0 (leftL a c n) && decide (0 ≤ B) && decide (0 ≤ Y) && allN n (fun k => decide (sumTo (fun j => ((gi (rowL S k) (j : Nat)).natAbs : Int)) n ≤ Y * d)) && decide (d * B * (n * (d * B) * Y * 524272) ≤ 4500000000000000000) && decide (d * B ≤ 1000000 ∧ n * (d * B) * Y * 524272 ≤ 4500000000000000000)
def goodG (a c n : Nat) : Bool := goodGB (mBound a c n) (yBound (finD a c n) (finSol a c n)) (finD a c n) (finSol a c n) a c n
theorem all_goodG : allN 3 (fun a => allN 3 fun c => allN 9 fun n => bif Nat.ble 2 (a + c) && Nat.ble 1 n then goodG a c n else true) = true := by decide +kernel
theorem goodG_of {a c n : Nat} (ha : a < 3) (hc : c < 3) (hn : n < 9) (h1 : 1 ≤ n) (h2 : 2 ≤ a + c) : goodG a c n = true := by
  have := allN_get (allN_get (allN_get all_goodG ha) hc) hn
  rw [Nat.ble_eq_true_of_le h1, Nat.ble_eq_true_of_le h2] at this
  exact this
end Go.Proofs.Ytbobgnkohnbonaa

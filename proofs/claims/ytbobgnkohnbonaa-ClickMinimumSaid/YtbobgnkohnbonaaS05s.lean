/- Chapter 5, plain: the equations of a mark, solved without fractions until the end. -/
import Derived.Test.YtbobgnkohnbonaaS05n
set_option linter.unusedSimpArgs false
set_option linter.unusedVariables false
namespace Go.Proofs.Ytbobgnkohnbonaa
open Go.Ab
def gTo (raw : List Int) : Nat → Int
  | 0 => 0
  | k + 1 => (Int.gcd (gTo raw k) (gi raw (k : Nat)) : Int)
def rawRow (a b : Int) (ri rc : List Int) : List Int := List.zipWith (fun x y => a * x - b * y) ri rc
def gjRow (a b : Int) (ri rc : List Int) : List Int :=
  bif decide (1 < gTo (rawRow a b ri rc) (rawRow a b ri rc).length) then (rawRow a b ri rc).map (fun x => x.tdiv (gTo (rawRow a b ri rc) (rawRow a b ri rc).length)) else rawRow a b ri rc
def gjV (V0 : Nat → List Int) : Nat → Nat → List Int
  | 0, i => V0 i
  | c + 1, i => bif decide (i = c) || decide (gi (gjV V0 c i) (c : Nat) = 0) then gjV V0 c i else gjRow (gi (gjV V0 c c) (c : Nat)) (gi (gjV V0 c i) (c : Nat)) (gjV V0 c i) (gjV V0 c c)
def primRow (c : Nat) (rc rr : List Int) : List Int := (rawRow (gi rc (c : Nat)) (gi rr (c : Nat)) rr rc).map fun x => x / gTo (rawRow (gi rc (c : Nat)) (gi rr (c : Nat)) rr rc) (rawRow (gi rc (c : Nat)) (gi rr (c : Nat)) rr rc).length
def primOk (n c : Nat) (rc rr rn : List Int) : Bool :=
  decide (0 < gTo (rawRow (gi rc (c : Nat)) (gi rr (c : Nat)) rr rc) n) && decide (rawRow (gi rc (c : Nat)) (gi rr (c : Nat)) rr rc = rn.map fun x => gTo (rawRow (gi rc (c : Nat)) (gi rr (c : Nat)) rr rc) n * x) && decide (gTo rn n = 1)
def gnext (c : Nat) (rc : List Int) : Nat → List (List Int) → List (List Int)
  | _, [] => []
  | i, rr :: M => (bif Nat.beq i c || decide (gi rr (c : Nat) = 0) then rr else primRow c rc rr) :: gnext c rc (i + 1) M
def gexact (n c : Nat) (rc : List Int) : Nat → List (List Int) → List (List Int) → Bool
  | i, rr :: M, rn :: M' => (bif Nat.beq i c || decide (gi rr (c : Nat) = 0) then true else primOk n c rc rr rn) && gexact n c rc (i + 1) M M'
  | _, _, _ => true
def gstg (M0 : List (List Int)) : Nat → List (List Int)
  | 0 => M0
  | c + 1 => gnext c ((gstg M0 c).getD c []) 0 (gstg M0 c)
def gchk (n : Nat) (B : Int) (fin : List (List Int) → Bool) : Nat → Nat → List (List Int) → Bool
  | 0, c, M => smallM B n M && Nat.beq M.length n && fin M
  | f + 1, c, M => smallM B n M && Nat.beq M.length n && gexact n c (M.getD c []) 0 M (gnext c (M.getD c []) 0 M) && gchk n B fin f (c + 1) (gnext c (M.getD c []) 0 M)
def leftL (a c n : Nat) : List (List Int) := (List.range n).map fun r => (List.range n).map fun p => matA a c n r p
def maxAbs (M : List (List Int)) : Int := M.foldl (fun m r => r.foldl (fun m x => max m (x.natAbs : Int)) m) 0
def mBound (a c n : Nat) : Int := (List.range (n + 1)).foldl (fun m t => max m (maxAbs (gstg (leftL a c n) t))) 0
def absSum (r : List Int) : Int := r.foldl (fun m x => m + (x.natAbs : Int)) 0
def yBound (d : Int) (S : List (List Int)) : Int := S.foldl (fun m r => max m (absSum r / d + 1)) 0
def unitM (n : Nat) (M : List (List Int)) : Bool := allN n fun i => decide (gi (rowL M i) (i : Nat) ≠ 0) && allN n fun k => Nat.beq k i || decide (gi (rowL M i) (k : Nat) = 0)
def goodGB (B Y d : Int) (S : List (List Int)) (a c n : Nat) : Bool :=
  gchk n B (unitM n) n 0 (leftL a c n) && decide (0 ≤ B) && decide (0 ≤ Y) && allN n (fun k => decide (sumTo (fun j => ((gi (rowL S k) (j : Nat)).natAbs : Int)) n ≤ Y * d)) && decide (d * B * (n * (d * B) * Y * 524272) ≤ 4500000000000000000) && decide (d * B ≤ 1000000 ∧ n * (d * B) * Y * 524272 ≤ 4500000000000000000)
def goodG (a c n : Nat) : Bool := goodGB (mBound a c n) (yBound (finD a c n) (finSol a c n)) (finD a c n) (finSol a c n) a c n
theorem all_goodG : allN 3 (fun a => allN 3 fun c => allN 9 fun n => bif Nat.ble 2 (a + c) && Nat.ble 1 n then goodG a c n else true) = true := by decide +kernel
theorem goodG_of {a c n : Nat} (ha : a < 3) (hc : c < 3) (hn : n < 9) (h1 : 1 ≤ n) (h2 : 2 ≤ a + c) : goodG a c n = true := by
  have := allN_get (allN_get (allN_get all_goodG ha) hc) hn
  rw [Nat.ble_eq_true_of_le h1, Nat.ble_eq_true_of_le h2] at this
  exact this
end Go.Proofs.Ytbobgnkohnbonaa

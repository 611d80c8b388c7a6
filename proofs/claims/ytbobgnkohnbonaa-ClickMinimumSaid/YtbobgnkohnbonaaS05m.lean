/- Chapter 5, plain: the equations of a mark, and how they are solved. -/
import Derived.Test.YtbobgnkohnbonaaS05
set_option linter.unusedSimpArgs false
set_option linter.unusedVariables false
namespace Go.Proofs.Ytbobgnkohnbonaa
open Go.Ab
theorem sumTo_ext {f g : Nat → Int} {n : Nat} (h : ∀ i, i < n → f i = g i) : sumTo f n = sumTo g n := by
  induction n with
  | zero => rfl
  | succ n ih => simp only [sumTo]; rw [ih (fun i hi => h i (by omega)), h n (by omega)]
theorem sumTo_zero {f : Nat → Int} {n : Nat} (h : ∀ i, i < n → f i = 0) : sumTo f n = 0 := by
  induction n with
  | zero => rfl
  | succ n ih => simp only [sumTo]; rw [ih (fun i hi => h i (by omega)), h n (by omega)]; rfl
theorem sumTo_add (f g : Nat → Int) (n : Nat) : sumTo (fun i => f i + g i) n = sumTo f n + sumTo g n := by
  induction n with
  | zero => rfl
  | succ n ih => simp only [sumTo]; rw [ih]; omega
theorem sumTo_mul (a : Int) (f : Nat → Int) (n : Nat) : sumTo (fun i => a * f i) n = a * sumTo f n := by
  induction n with
  | zero => simp [sumTo]
  | succ n ih => simp only [sumTo]; rw [ih, Int.mul_add]
theorem sumTo_comm (f : Nat → Nat → Int) (n m : Nat) : sumTo (fun i => sumTo (fun j => f i j) m) n = sumTo (fun j => sumTo (fun i => f i j) n) m := by
  induction n with
  | zero => simp only [sumTo]; exact (sumTo_zero fun _ _ => rfl).symm
  | succ n ih => simp only [sumTo]; rw [ih, ← sumTo_add]
theorem sumTo_abs {f : Nat → Int} {c : Int} {n : Nat} (h : ∀ i, i < n → -c ≤ f i ∧ f i ≤ c) : -(n * c) ≤ sumTo f n ∧ sumTo f n ≤ n * c := by
  induction n with
  | zero => simp [sumTo]
  | succ n ih =>
    have h1 := ih fun i hi => h i (by omega)
    have h2 := h n (by omega)
    have e : ((n + 1 : Nat) : Int) * c = n * c + c := by rw [Int.natCast_add, Int.add_mul]; simp
    simp only [sumTo]
    omega
theorem mulAbs {f x a b : Int} (hf : -a ≤ f ∧ f ≤ a) (hx : -b ≤ x ∧ x ≤ b) : -(a * b) ≤ f * x ∧ f * x ≤ a * b := by
  have h1 := Int.mul_le_mul_of_natAbs_le (x := f) (y := x) (s := a.toNat) (t := b.toNat) (by omega) (by omega)
  have h2 := Int.mul_le_mul_of_natAbs_le (x := -f) (y := x) (s := a.toNat) (t := b.toNat) (by omega) (by omega)
  have e : ((a.toNat : Int)) * (b.toNat : Int) = a * b := by
    rw [Int.toNat_of_nonneg (by omega), Int.toNat_of_nonneg (by omega)]
  rw [e] at h1 h2
  rw [Int.neg_mul] at h2
  omega
def wgt (L i k : Int) : Int := bif decide (i < 1) || decide (L - 2 < i) || !within k (i - 1) (i + 1) then 0 else bif decide (k = i) then -2 else 1
def prd (L j k : Int) : Int := wgt L (j - 1) j * wgt L (j - 1) k + wgt L j j * wgt L j k + wgt L (j + 1) j * wgt L (j + 1) k
theorem wgt_bound (L i k : Int) : -2 ≤ wgt L i k ∧ wgt L i k ≤ 1 := by
  unfold wgt
  cases decide (i < 1) || decide (L - 2 < i) || !within k (i - 1) (i + 1) <;> cases decide (k = i) <;> decide
theorem wgt_shift {L i k L' i' k' : Int} (h1 : i < 1 ↔ i' < 1) (h2 : L - 2 < i ↔ L' - 2 < i') (h3 : k - i = k' - i') : wgt L i k = wgt L' i' k' := by
  unfold wgt
  rw [decide_eq_decide.2 h1, decide_eq_decide.2 h2]
  have e1 : within k (i - 1) (i + 1) = within k' (i' - 1) (i' + 1) := by
    unfold within
    rw [decide_eq_decide.2 (show (i - 1 ≤ k ↔ i' - 1 ≤ k') by omega), decide_eq_decide.2 (show (k ≤ i + 1 ↔ k' ≤ i' + 1) by omega)]
  rw [e1, decide_eq_decide.2 (show (k = i ↔ k' = i') by omega)]
theorem prd_shift {L lo n : Int} {a c : Int} (ha : a = min lo 2) (hc : c = min (L - lo - n) 2) (h0 : 0 ≤ lo) (h1 : 0 ≤ L - lo - n) {r p : Int} (hr : 0 ≤ r ∧ r < n) : prd L (lo + r) (lo + p) = prd (a + n + c) (a + r) (a + p) := by
  unfold prd
  have e : ∀ d k : Int, -1 ≤ d ∧ d ≤ 1 → wgt L (lo + r + d) (lo + k) = wgt (a + n + c) (a + r + d) (a + k) := fun d k hd =>
    wgt_shift (by omega) (by omega) (by omega)
  have e1 := e (-1) r (by omega)
  have e2 := e (-1) p (by omega)
  have e3 := e 0 r (by omega)
  have e4 := e 0 p (by omega)
  have e5 := e 1 r (by omega)
  have e6 := e 1 p (by omega)
  rw [Int.add_zero, Int.add_zero] at e3 e4
  rw [show lo + r - 1 = lo + r + -1 by omega, show a + r - 1 = a + r + -1 by omega, e1, e2, e3, e4, e5, e6]
def idRow (n r : Nat) : List Int := (List.range n).map fun p => bif p == r then 1 else 0
def matA (a c n : Nat) (r p : Nat) : Int := prd (a + n + c : Nat) (a + r : Nat) (a + p : Nat)
def start (a c n : Nat) : List (List Int) := (List.range n).map fun r => ((List.range n).map fun p => matA a c n r p) ++ idRow n r
def nextRow (d : Int) (c : Nat) (rc rr : List Int) : List Int := List.zipWith (fun x y => (gi rc c * x - gi rr c * y) / d) rr rc
def exactRow (d : Int) (c : Nat) (rc rr rn : List Int) : Bool := decide (List.zipWith (fun x y => gi rc c * x - gi rr c * y) rr rc = rn.map (d * ·))
def nextFrom (d : Int) (c : Nat) (rc : List Int) : Nat → List (List Int) → List (List Int)
  | _, [] => []
  | i, rr :: M => (bif Nat.ble i c then rr else nextRow d c rc rr) :: nextFrom d c rc (i + 1) M
def exactFrom (d : Int) (c : Nat) (rc : List Int) : Nat → List (List Int) → List (List Int) → Bool
  | i, rr :: M, rn :: M' => (bif Nat.ble i c then true else exactRow d c rc rr rn) && exactFrom d c rc (i + 1) M M'
  | _, _, _ => true
def smallM (B : Int) (n : Nat) (M : List (List Int)) : Bool := M.all fun r => r.all (fun x => within x (-B) B) && Nat.beq r.length n
def lowM (c : Nat) : Nat → List (List Int) → Bool
  | _, [] => true
  | i, r :: M => ((List.range (min c i)).all fun k => decide (gi r (k : Nat) = 0)) && lowM c (i + 1) M
def chk (n : Nat) (fin : Int → List (List Int) → Bool) : Nat → Nat → Int → List (List Int) → Bool
  | 0, c, d, M => smallM 2000 (2 * n) M && lowM c 0 M && decide (0 < d ∧ d ≤ 2000) && Nat.beq M.length n && fin d M
  | f + 1, c, d, M => smallM 2000 (2 * n) M && lowM c 0 M && decide (0 < d ∧ d ≤ 2000) && Nat.beq M.length n && exactFrom d c (M.getD c []) 0 M (nextFrom d c (M.getD c []) 0 M) && chk n fin f (c + 1) (gi (M.getD c []) c) (nextFrom d c (M.getD c []) 0 M)
def stg (M0 : List (List Int)) : Nat → List (List Int) × Int
  | 0 => (M0, 1)
  | c + 1 => (nextFrom (stg M0 c).2 c ((stg M0 c).1.getD c []) 0 (stg M0 c).1, gi ((stg M0 c).1.getD c []) c)
structure StageOk (n c : Nat) (d : Int) (M : List (List Int)) : Prop where
  small : smallM 2000 (2 * n) M = true
  low : lowM c 0 M = true
  piv : 0 < d ∧ d ≤ 2000
  len : M.length = n
theorem chk_ok {n : Nat} {fin : Int → List (List Int) → Bool} {M0 : List (List Int)} : ∀ (f c : Nat), chk n fin f c (stg M0 c).2 (stg M0 c).1 = true →
    (∀ t, t ≤ f → StageOk n (c + t) (stg M0 (c + t)).2 (stg M0 (c + t)).1) ∧ (∀ t, t < f → exactFrom (stg M0 (c + t)).2 (c + t) ((stg M0 (c + t)).1.getD (c + t) []) 0 (stg M0 (c + t)).1 (stg M0 (c + t + 1)).1 = true) ∧ fin (stg M0 (c + f)).2 (stg M0 (c + f)).1 = true
  | 0, c, h => by
    simp only [chk, Bool.and_eq_true, decide_eq_true_eq] at h
    obtain ⟨⟨⟨⟨h1, h2⟩, h3⟩, h4⟩, h5⟩ := h
    refine ⟨fun t ht => ?_, fun t ht => absurd ht (by omega), h5⟩
    obtain rfl : t = 0 := by omega
    exact ⟨h1, h2, h3, Nat.eq_of_beq_eq_true h4⟩
  | f + 1, c, h => by
    simp only [chk, Bool.and_eq_true, decide_eq_true_eq] at h
    obtain ⟨⟨⟨⟨⟨h1, h2⟩, h3⟩, h4⟩, h5⟩, h6⟩ := h
    obtain ⟨k1, k2, k3⟩ := chk_ok f (c + 1) h6
    refine ⟨fun t ht => ?_, fun t ht => ?_, ?_⟩
    · cases t with
      | zero => exact ⟨h1, h2, h3, Nat.eq_of_beq_eq_true h4⟩
      | succ t => have := k1 t (by omega); rw [show c + (t + 1) = c + 1 + t by omega]; exact this
    · cases t with
      | zero => exact h5
      | succ t => have := k2 t (by omega); rw [show c + (t + 1) = c + 1 + t by omega]; exact this
    · rw [show c + (f + 1) = c + 1 + f by omega]; exact k3
theorem nextFrom_get {d : Int} {c : Nat} {rc : List Int} : ∀ {M : List (List Int)} {s i : Nat} {r : List Int}, M[i]? = some r → (nextFrom d c rc s M)[i]? = some (bif Nat.ble (s + i) c then r else nextRow d c rc r)
  | [], s, i, r, h => by simp at h
  | q :: M, s, 0, r, h => by simp at h; subst h; rfl
  | q :: M, s, i + 1, r, h => by
    simp only [List.getElem?_cons_succ] at h
    simp only [nextFrom, List.getElem?_cons_succ]
    rw [nextFrom_get (s := s + 1) h, show s + 1 + i = s + (i + 1) by omega]
theorem exactFrom_get {d : Int} {c : Nat} {rc : List Int} : ∀ {M M' : List (List Int)} {s i : Nat} {r r' : List Int}, exactFrom d c rc s M M' = true → M[i]? = some r → M'[i]? = some r' → c < s + i → exactRow d c rc r r' = true
  | [], _, s, i, r, r', h, h1, _, _ => by simp at h1
  | _ :: _, [], s, i, r, r', h, _, h2, _ => by simp at h2
  | q :: M, q' :: M', s, 0, r, r', h, h1, h2, hc => by
    simp at h1 h2
    subst h1; subst h2
    simp only [exactFrom, Bool.and_eq_true] at h
    have hb : Nat.ble s c = false := by
      cases hq : Nat.ble s c with
      | false => rfl
      | true => have := Nat.le_of_ble_eq_true hq; omega
    rw [hb, cond_false] at h
    exact h.1
  | q :: M, q' :: M', s, i + 1, r, r', h, h1, h2, hc => by
    simp only [List.getElem?_cons_succ] at h1 h2
    simp only [exactFrom, Bool.and_eq_true] at h
    exact exactFrom_get h.2 h1 h2 (by omega)
theorem lowM_get {c : Nat} : ∀ {M : List (List Int)} {s i : Nat} {r : List Int}, lowM c s M = true → M[i]? = some r → ∀ k, k < c → k < s + i → gi r (k : Nat) = 0
  | [], s, i, r, h, h1 => by simp at h1
  | q :: M, s, 0, r, h, h1 => fun k hk hk2 => by
    simp at h1; subst h1
    simp only [lowM, Bool.and_eq_true, List.all_eq_true, decide_eq_true_eq] at h
    exact h.1 k (List.mem_range.2 (by omega))
  | q :: M, s, i + 1, r, h, h1 => fun k hk hk2 => by
    simp only [List.getElem?_cons_succ] at h1
    simp only [lowM, Bool.and_eq_true] at h
    exact lowM_get h.2 h1 k hk (by omega)
theorem smallM_get {B : Int} {n : Nat} {M : List (List Int)} {i : Nat} {r : List Int} (hB : 0 ≤ B) (h : smallM B n M = true) (h1 : M[i]? = some r) : r.length = n ∧ ∀ k : Nat, -B ≤ gi r k ∧ gi r k ≤ B := by
  unfold smallM at h
  rw [List.all_eq_true] at h
  have := h r (List.mem_of_getElem? h1)
  simp only [Bool.and_eq_true, List.all_eq_true] at this
  refine ⟨Nat.eq_of_beq_eq_true this.2, fun k => ?_⟩
  unfold gi
  rw [List.getD_eq_getElem?_getD]
  cases e : r[((k : Nat) : Int).toNat]? with
  | none => simp; omega
  | some x => exact within_iff.1 (this.1 x (List.mem_of_getElem? e))
def rowS (M0 : List (List Int)) (c i : Nat) : List Int := (stg M0 c).1.getD i []
theorem rowS_get {n : Nat} {M0 : List (List Int)} {c i : Nat} (h : StageOk n c (stg M0 c).2 (stg M0 c).1) (hi : i < n) : (stg M0 c).1[i]? = some (rowS M0 c i) := by
  unfold rowS
  rw [List.getD_eq_getElem?_getD, List.getElem?_eq_getElem (by rw [h.len]; exact hi)]
  rfl
theorem gi_zipWith {f : Int → Int → Int} {xs ys : List Int} {k : Nat} (h1 : k < xs.length) (h2 : k < ys.length) : gi (List.zipWith f xs ys) k = f (gi xs k) (gi ys k) := by
  simp [gi, List.getElem?_zipWith, h1, h2]
theorem gi_map {f : Int → Int} {xs : List Int} {k : Nat} (h1 : k < xs.length) : gi (xs.map f) k = f (gi xs k) := by
  simp [gi, h1]
section
variable {n : Nat} {M0 : List (List Int)} (hS : ∀ c, c ≤ n → StageOk n c (stg M0 c).2 (stg M0 c).1) (hX : ∀ c, c < n → exactFrom (stg M0 c).2 c ((stg M0 c).1.getD c []) 0 (stg M0 c).1 (stg M0 (c + 1)).1 = true)
include hS
theorem rowS_len {c i : Nat} (hc : c ≤ n) (hi : i < n) : (rowS M0 c i).length = 2 * n := (smallM_get (by omega) (hS c hc).small (rowS_get (hS c hc) hi)).1
theorem rowS_small {c i : Nat} (hc : c ≤ n) (hi : i < n) (k : Nat) : -2000 ≤ gi (rowS M0 c i) k ∧ gi (rowS M0 c i) k ≤ 2000 := (smallM_get (by omega) (hS c hc).small (rowS_get (hS c hc) hi)).2 k
theorem rowS_low {c i k : Nat} (hc : c ≤ n) (hi : i < n) (hk : k < c) (hki : k < i) : gi (rowS M0 c i) (k : Nat) = 0 := lowM_get (hS c hc).low (rowS_get (hS c hc) hi) k hk (by omega)
theorem rowS_same {c i : Nat} (hc : c < n) (hi : i ≤ c) : rowS M0 (c + 1) i = rowS M0 c i := by
  have h1 := rowS_get (hS c (by omega)) (show i < n by omega)
  have h2 := rowS_get (hS (c + 1) (by omega)) (show i < n by omega)
  have h3 := nextFrom_get (d := (stg M0 c).2) (c := c) (rc := (stg M0 c).1.getD c []) (s := 0) h1
  have h4 : (stg M0 (c + 1)).1[i]? = some (bif Nat.ble (0 + i) c then rowS M0 c i else nextRow (stg M0 c).2 c ((stg M0 c).1.getD c []) (rowS M0 c i)) := h3
  rw [h2, Nat.ble_eq_true_of_le (show 0 + i ≤ c by omega), cond_true] at h4
  exact Option.some.inj h4
include hX
theorem rowS_step {c i k : Nat} (hc : c < n) (hci : c < i) (hi : i < n) (hk : k < 2 * n) :
    gi (rowS M0 c c) (c : Nat) * gi (rowS M0 c i) k - gi (rowS M0 c i) (c : Nat) * gi (rowS M0 c c) k = (stg M0 c).2 * gi (rowS M0 (c + 1) i) k := by
  have h1 := rowS_get (hS c (by omega)) hi
  have h2 := rowS_get (hS (c + 1) (by omega)) hi
  have h3 := exactFrom_get (hX c hc) h1 h2 (by omega)
  have l1 := rowS_len hS (c := c) (i := i) (by omega) hi
  have l2 := rowS_len hS (c := c) (i := c) (by omega) hc
  have l3 := rowS_len hS (c := c + 1) (i := i) (by omega) hi
  unfold exactRow at h3
  have h4 := of_decide_eq_true h3
  have h5 := congrArg (fun l => gi l (k : Nat)) h4
  rw [gi_zipWith (by rw [l1]; exact hk) (by show k < (rowS M0 c c).length; rw [l2]; exact hk), gi_map (by rw [l3]; exact hk)] at h5
  exact h5
end
def comb (row : List Int) : Nat → List (List Int) → List Int → List Int
  | _, [], acc => acc
  | k, q :: S, acc => comb row (k + 1) S (List.zipWith (fun x y => x - gi row (k : Nat) * y) acc q)
def backS (d : Int) (n : Nat) : Nat → List (List Int) → List (List Int)
  | _, [] => []
  | r, row :: M => ((comb row (r + 1) (backS d n (r + 1) M) ((row.drop n).map (d * ·))).map fun x => x / gi row (r : Nat)) :: backS d n (r + 1) M
def rowL (S : List (List Int)) (k : Nat) : List Int := S.getD k []
def allN (n : Nat) (p : Nat → Bool) : Bool := (List.range n).all p
theorem allN_get {n : Nat} {p : Nat → Bool} (h : allN n p = true) {i : Nat} (hi : i < n) : p i = true := by
  unfold allN at h
  rw [List.all_eq_true] at h
  exact h i (List.mem_range.2 hi)
def finS (A : Nat → Nat → Int) (n : Nat) (d : Int) (M S : List (List Int)) : Bool :=
  allN n (fun r => allN n fun j => decide (sumTo (fun k => gi (rowL M r) (k : Nat) * gi (rowL S k) (j : Nat)) n = d * gi (rowL M r) ((n + j : Nat) : Int))) &&
  allN n (fun r => allN n fun j => decide (sumTo (fun k => A r k * gi (rowL S k) (j : Nat)) n = bif r == j then d else 0)) &&
  allN n (fun r => allN n fun j => decide (sumTo (fun k => gi (rowL S r) (k : Nat) * A k j) n = bif r == j then d else 0)) &&
  allN n (fun r => decide (0 < gi (rowL M r) (r : Nat))) &&
  smallM 5000 n S && Nat.beq S.length n
def finB (a c n : Nat) (d : Int) (M : List (List Int)) : Bool := finS (matA a c n) n d M (backS d n 0 M)
def goodB (a c n : Nat) : Bool := chk n (finB a c n) n 0 1 (start a c n)
theorem all_good : allN 3 (fun a => allN 3 fun c => allN 9 fun n => bif Nat.ble 2 (a + c) && Nat.ble 1 n then goodB a c n else true) = true := by decide +kernel
theorem good_of {a c n : Nat} (ha : a < 3) (hc : c < 3) (hn : n < 9) (h1 : 1 ≤ n) (h2 : 2 ≤ a + c) : goodB a c n = true := by
  have := allN_get (allN_get (allN_get all_good ha) hc) hn
  rw [Nat.ble_eq_true_of_le h1, Nat.ble_eq_true_of_le h2] at this
  exact this
end Go.Proofs.Ytbobgnkohnbonaa

import Derived.Test.YtabmhfmglhjmjaaGreatDoorS05
set_option linter.unusedVariables false
set_option linter.unusedSimpArgs false
set_option linter.unusedSectionVars false
namespace Go.Proofs.YtabmhfmglhjmjaaGreatDoor
open Go.Ab
attribute [local instance] drS
def corrT (a b : List Int) (lag : Int) (i : Nat) : Int := bif within ((i : Int) + lag) 0 ((b.length : Int) - 1) then gi a i * gi b ((i : Int) + lag) else 0
def corrTo (a b : List Int) (lag : Int) (n : Nat) : Int := sumTo (corrT a b lag) n
def corr (a b : List Int) (lag : Int) : Int := corrTo a b lag a.length
theorem corrT_bound {a b : List Int} (ha : areSamples a = true) (hb : areSamples b = true) (lag : Int) (i : Nat) : -(32767 * 32767) ≤ corrT a b lag i ∧ corrT a b lag i ≤ 32767 * 32767 := by
  unfold corrT
  cases within ((i : Int) + lag) 0 ((b.length : Int) - 1)
  · rw [cond_false]; omega
  · rw [cond_true]
    have h1 := sample_gi ha i
    have h2 := sample_gi hb ((i : Int) + lag)
    generalize gi a i = x at *
    generalize gi b ((i : Int) + lag) = y at *
    have e1 : 0 ≤ (32767 - x) * (32767 + y) := Int.mul_nonneg (by omega) (by omega)
    have e2 : 0 ≤ (32767 + x) * (32767 - y) := Int.mul_nonneg (by omega) (by omega)
    have e3 : 0 ≤ (32767 - x) * (32767 - y) := Int.mul_nonneg (by omega) (by omega)
    have e4 : 0 ≤ (32767 + x) * (32767 + y) := Int.mul_nonneg (by omega) (by omega)
    simp only [Int.sub_mul, Int.mul_sub, Int.add_mul, Int.mul_add] at e1 e2 e3 e4
    omega
theorem sumTo_bound2 {f : Nat → Int} {c : Int} {n : Nat} (h : ∀ i, i < n → -c ≤ f i ∧ f i ≤ c) : -(n * c) ≤ sumTo f n ∧ sumTo f n ≤ n * c := by
  induction n with
  | zero => simp [sumTo]
  | succ n ih =>
    have := ih fun i hi => h i (by omega)
    have h2 := h n (by omega)
    rw [sumTo, show ((n + 1 : Nat) : Int) * c = n * c + c by rw [Int.natCast_succ, Int.add_mul, Int.one_mul]]
    omega
theorem corrTo_bound {a b : List Int} (ha : areSamples a = true) (hb : areSamples b = true) (lag : Int) {n : Nat} (hn : n ≤ 200) : -(200 * (32767 * 32767)) ≤ corrTo a b lag n ∧ corrTo a b lag n ≤ 200 * (32767 * 32767) := by
  have h := sumTo_bound2 (f := corrT a b lag) (n := n) fun i _ => corrT_bound ha hb lag i
  unfold corrTo
  omega
def cmpI (a b : Int) : Int := bif decide (a < b) then -1 else bif decide (b < a) then 1 else 0
def orI (a b : Int) : Int := bif a != 0 then a else b
def lagCmp (x y : Int × Int) : Int := orI (cmpI y.2 x.2) (orI (cmpI (x.1.natAbs : Int) (y.1.natAbs : Int)) (cmpI x.1 y.1))
theorem lagCmp_lt (x y : Int × Int) : lagCmp x y < 0 ↔ y.2 < x.2 ∨ (y.2 = x.2 ∧ (x.1.natAbs < y.1.natAbs ∨ (x.1.natAbs = y.1.natAbs ∧ x.1 < y.1))) := by
  unfold lagCmp orI cmpI
  by_cases h1 : y.2 < x.2
  · simp [h1]
  by_cases h2 : x.2 < y.2
  · simp [h1, h2]; omega
  have h3 : y.2 = x.2 := by omega
  by_cases h4 : (x.1.natAbs : Int) < y.1.natAbs
  · simp [h1, h2, h4]; omega
  by_cases h5 : (y.1.natAbs : Int) < x.1.natAbs
  · simp [h1, h2, h4, h5]; omega
  by_cases h6 : x.1 < y.1
  · simp [h1, h2, h4, h5, h6]; omega
  by_cases h7 : y.1 < x.1
  · simp [h1, h2, h4, h5, h6, h7]; omega
  · simp [h1, h2, h4, h5, h6, h7]; omega
def lagAt (a b : List Int) (limit : Int) (i : Nat) : Int × Int := ((i : Int) - limit, corr a b ((i : Int) - limit))
def lagsTo (a b : List Int) (limit : Int) (n : Nat) : List (Int × Int) := (List.range n).map (lagAt a b limit)
theorem lagsTo_len (a b : List Int) (limit : Int) (n : Nat) : (lagsTo a b limit n).length = n := by simp [lagsTo]
theorem lagsTo_succ (a b : List Int) (limit : Int) (n : Nat) : lagsTo a b limit n ++ [lagAt a b limit n] = lagsTo a b limit (n + 1) := by simp [lagsTo, List.range_succ]
structure LagOk (c : Int → Int) (limit best other : Int) : Prop where
  range : -limit ≤ best ∧ best ≤ limit
  first : ∀ lag, -limit ≤ lag → lag ≤ limit → lag ≠ best → c lag < c best ∨ (c lag = c best ∧ (best.natAbs < lag.natAbs ∨ (best.natAbs = lag.natAbs ∧ best < lag)))
  most : ∀ lag, -limit ≤ lag → lag ≤ limit → lag ≠ best → c lag ≤ other
  some : ∃ lag, -limit ≤ lag ∧ lag ≤ limit ∧ lag ≠ best ∧ c lag = other
theorem LagOk.unique {c : Int → Int} {limit b o b' o' : Int} (h : LagOk c limit b o) (h' : LagOk c limit b' o') : b = b' ∧ o = o' := by
  have hb : b = b' := by
    by_cases e : b = b'
    · exact e
    have h1 := h.first b' h'.range.1 h'.range.2 (fun x => e x.symm)
    have h2 := h'.first b h.range.1 h.range.2 e
    omega
  subst hb
  obtain ⟨l, l1, l2, l3, l4⟩ := h.some
  obtain ⟨m, m1, m2, m3, m4⟩ := h'.some
  have h1 := h'.most l l1 l2 l3
  have h2 := h.most m m1 m2 m3
  omega
theorem lagOk_of {a b : List Int} {limit : Int} {n : Nat} (hn : (n : Int) = 2 * limit + 1) (hl : 1 ≤ limit) {ys : List (Int × Int)} (hp : ys.Perm (lagsTo a b limit n))
    (hs : ∀ (i j : Nat) x y, i < j → ys[i]? = some x → ys[j]? = some y → 0 ≤ lagCmp y x) : ∃ x y r, ys = x :: y :: r ∧ x.2 = corr a b x.1 ∧ LagOk (corr a b) limit x.1 y.2 := by
  have hlen : ys.length = n := by rw [hp.length_eq, lagsTo_len]
  match ys, hlen with
  | [], h => simp at h; omega
  | [_], h => simp at h; omega
  | x :: y :: r, _ =>
    have hmem : ∀ z, z ∈ x :: y :: r ↔ ∃ i : Nat, i < n ∧ lagAt a b limit i = z := fun z => by
      rw [hp.mem_iff]; simp [lagsTo]
    have hnd : ((x :: y :: r).map Prod.fst).Nodup := by
      have : ((lagsTo a b limit n).map Prod.fst).Nodup := by
        have e : (lagsTo a b limit n).map Prod.fst = (List.range n).map fun i : Nat => (i : Int) - limit := by simp [lagsTo, lagAt, Function.comp_def]
        rw [e]
        exact List.Pairwise.map _ (fun i j hij => by simp only [ne_eq]; omega) List.nodup_range
      exact ((hp.map Prod.fst).nodup_iff).2 this
    have hof : ∀ z ∈ x :: y :: r, z.2 = corr a b z.1 ∧ -limit ≤ z.1 ∧ z.1 ≤ limit := fun z hz => by
      obtain ⟨i, hi, rfl⟩ := (hmem z).1 hz
      refine ⟨rfl, ?_, ?_⟩ <;> (show _ ; simp only [lagAt]; omega)
    have hin : ∀ lag, -limit ≤ lag → lag ≤ limit → (lag, corr a b lag) ∈ x :: y :: r := fun lag h1 h2 => (hmem _).2 ⟨(lag + limit).toNat, by omega, by unfold lagAt; rw [show (((lag + limit).toNat : Nat) : Int) - limit = lag by omega]⟩
    obtain ⟨x1, x2, x3⟩ := hof x (by simp)
    obtain ⟨y1, y2, y3⟩ := hof y (by simp)
    have hxy : x.1 ≠ y.1 := fun e => by
      simp only [List.map_cons, List.nodup_cons, List.mem_cons] at hnd
      exact hnd.1 (.inl e)
    have hrest : ∀ lag, -limit ≤ lag → lag ≤ limit → lag ≠ x.1 → ∃ j : Nat, 1 ≤ j ∧ (x :: y :: r)[j]? = some (lag, corr a b lag) := fun lag h1 h2 hne => by
      obtain ⟨j, hj⟩ := List.mem_iff_getElem?.1 (hin lag h1 h2)
      refine ⟨j, ?_, hj⟩
      rcases j with _ | j
      · simp at hj; exact absurd (by rw [hj]) hne.symm
      · omega
    refine ⟨x, y, r, rfl, x1, ⟨x2, x3⟩, fun lag h1 h2 hne => ?_, fun lag h1 h2 hne => ?_, ⟨y.1, y2, y3, fun e => hxy e.symm, y1.symm⟩⟩
    · obtain ⟨j, hj1, hj⟩ := hrest lag h1 h2 hne
      have h3 := hs 0 j _ _ (by omega) rfl hj
      have h4 := mt (lagCmp_lt (lag, corr a b lag) x).2 (by omega)
      dsimp only at h4
      rw [← x1]
      omega
    · obtain ⟨j, hj1, hj⟩ := hrest lag h1 h2 hne
      rw [y1]
      rcases Nat.lt_or_ge 1 j with h5 | h5
      · have h3 := hs 1 j _ _ h5 rfl hj
        have h4 := mt (lagCmp_lt (lag, corr a b lag) y).2 (by omega)
        dsimp only at h4
        omega
      · obtain rfl : j = 1 := by omega
        simp at hj
        rw [hj]
        exact Int.le_refl _
end Go.Proofs.YtabmhfmglhjmjaaGreatDoor

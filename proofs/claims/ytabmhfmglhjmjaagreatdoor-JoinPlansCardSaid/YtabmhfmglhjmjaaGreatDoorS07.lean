import Derived.Test.YtabmhfmglhjmjaaGreatDoorS05
set_option linter.unusedVariables false
set_option linter.unusedSimpArgs false
/-! Correlations (chapter 7). -/
set_option linter.unusedSectionVars false
namespace Go.Proofs.YtabmhfmglhjmjaaGreatDoor
open Go.Ab
attribute [local instance] drS

/-- A sample, 0 outside. -/
def ex (a : List Int) (j : Int) : Int := bif within j 0 ((a.length : Int) - 1) then gi a j else 0
def corrT (a b : List Int) (lag : Int) (i : Nat) : Int := bif within ((i : Int) + lag) 0 ((b.length : Int) - 1) then gi a i * gi b ((i : Int) + lag) else 0
def corrTo (a b : List Int) (lag : Int) (n : Nat) : Int := sumTo (corrT a b lag) n
def corr (a b : List Int) (lag : Int) : Int := corrTo a b lag a.length

theorem corrT_bound {a b : List Int} (ha : areSamples a = true) (hb : areSamples b = true) (lag : Int) (i : Nat) : -(32767 * 32767) ≤ corrT a b lag i ∧ corrT a b lag i ≤ 32767 * 32767 := by
  unfold corrT
  cases within ((i : Int) + lag) 0 ((b.length : Int) - 1)
  · rw [cond_false]; omega
  · rw [cond_true]
    have h1 := sample_gi ha i
    have h2 := sample_gi hb ((i : Int) + lag)
    generalize gi a i = x at *
    generalize gi b ((i : Int) + lag) = y at *
    have e1 : 0 ≤ (32767 - x) * (32767 + y) := Int.mul_nonneg (by omega) (by omega)
    have e2 : 0 ≤ (32767 + x) * (32767 - y) := Int.mul_nonneg (by omega) (by omega)
    have e3 : 0 ≤ (32767 - x) * (32767 - y) := Int.mul_nonneg (by omega) (by omega)
    have e4 : 0 ≤ (32767 + x) * (32767 + y) := Int.mul_nonneg (by omega) (by omega)
    simp only [Int.sub_mul, Int.mul_sub, Int.add_mul, Int.mul_add] at e1 e2 e3 e4
    omega
theorem sumTo_bound2 {f : Nat → Int} {c : Int} {n : Nat} (h : ∀ i, i < n → -c ≤ f i ∧ f i ≤ c) : -(n * c) ≤ sumTo f n ∧ sumTo f n ≤ n * c := by
  induction n with
  | zero => simp [sumTo]
  | succ n ih =>
    have := ih fun i hi => h i (by omega)
    have h2 := h n (by omega)
    rw [sumTo, show ((n + 1 : Nat) : Int) * c = n * c + c by rw [Int.natCast_succ, Int.add_mul, Int.one_mul]]
    omega
theorem corrTo_bound {a b : List Int} (ha : areSamples a = true) (hb : areSamples b = true) (lag : Int) {n : Nat} (hn : n ≤ 200) : -(200 * (32767 * 32767)) ≤ corrTo a b lag n ∧ corrTo a b lag n ≤ 200 * (32767 * 32767) := by
  have h := sumTo_bound2 (f := corrT a b lag) (n := n) fun i _ => corrT_bound ha hb lag i
  unfold corrTo
  omega

/-- x comes before y among lags with correlations. -/
def cmpI (a b : Int) : Int := bif decide (a < b) then -1 else bif decide (b < a) then 1 else 0
def orI (a b : Int) : Int := bif a != 0 then a else b
def lagCmp (x y : Int × Int) : Int := orI (cmpI y.2 x.2) (orI (cmpI (x.1.natAbs : Int) (y.1.natAbs : Int)) (cmpI x.1 y.1))
theorem lagCmp_lt (x y : Int × Int) : lagCmp x y < 0 ↔ y.2 < x.2 ∨ (y.2 = x.2 ∧ (x.1.natAbs < y.1.natAbs ∨ (x.1.natAbs = y.1.natAbs ∧ x.1 < y.1))) := by
  unfold lagCmp orI cmpI
  by_cases h1 : y.2 < x.2
  · simp [h1]
  by_cases h2 : x.2 < y.2
  · simp [h1, h2]; omega
  have h3 : y.2 = x.2 := by omega
  by_cases h4 : (x.1.natAbs : Int) < y.1.natAbs
  · simp [h1, h2, h4]; omega
  by_cases h5 : (y.1.natAbs : Int) < x.1.natAbs
  · simp [h1, h2, h4, h5]; omega
  by_cases h6 : x.1 < y.1
  · simp [h1, h2, h4, h5, h6]; omega
  by_cases h7 : y.1 < x.1
  · simp [h1, h2, h4, h5, h6, h7]; omega
  · simp [h1, h2, h4, h5, h6, h7]; omega

/-- The lags with their correlations, from the least on. -/
def lagAt (a b : List Int) (limit : Int) (i : Nat) : Int × Int := ((i : Int) - limit, corr a b ((i : Int) - limit))
def lagsTo (a b : List Int) (limit : Int) (n : Nat) : List (Int × Int) := (List.range n).map (lagAt a b limit)
theorem lagsTo_len (a b : List Int) (limit : Int) (n : Nat) : (lagsTo a b limit n).length = n := by simp [lagsTo]
theorem lagsTo_succ (a b : List Int) (limit : Int) (n : Nat) : lagsTo a b limit n ++ [lagAt a b limit n] = lagsTo a b limit (n + 1) := by simp [lagsTo, List.range_succ]

/-- The best lag, and the greatest correlation of the others. -/
structure LagOk (c : Int → Int) (limit best other : Int) : Prop where
  range : -limit ≤ best ∧ best ≤ limit
  first : ∀ lag, -limit ≤ lag → lag ≤ limit → lag ≠ best → c lag < c best ∨ (c lag = c best ∧ (best.natAbs < lag.natAbs ∨ (best.natAbs = lag.natAbs ∧ best < lag)))
  most : ∀ lag, -limit ≤ lag → lag ≤ limit → lag ≠ best → c lag ≤ other
  some : ∃ lag, -limit ≤ lag ∧ lag ≤ limit ∧ lag ≠ best ∧ c lag = other

theorem LagOk.unique {c : Int → Int} {limit b o b' o' : Int} (h : LagOk c limit b o) (h' : LagOk c limit b' o') : b = b' ∧ o = o' := by
  have hb : b = b' := by
    by_cases e : b = b'
    · exact e
    have h1 := h.first b' h'.range.1 h'.range.2 (fun x => e x.symm)
    have h2 := h'.first b h.range.1 h.range.2 e
    omega
  subst hb
  obtain ⟨l, l1, l2, l3, l4⟩ := h.some
  obtain ⟨m, m1, m2, m3, m4⟩ := h'.some
  have h1 := h'.most l l1 l2 l3
  have h2 := h.most m m1 m2 m3
  omega

/-- A list of all lags, sorted: its first two. -/
theorem lagOk_of {a b : List Int} {limit : Int} {n : Nat} (hn : (n : Int) = 2 * limit + 1) (hl : 1 ≤ limit) {ys : List (Int × Int)} (hp : ys.Perm (lagsTo a b limit n))
    (hs : ∀ (i j : Nat) x y, i < j → ys[i]? = some x → ys[j]? = some y → 0 ≤ lagCmp y x) : ∃ x y r, ys = x :: y :: r ∧ x.2 = corr a b x.1 ∧ LagOk (corr a b) limit x.1 y.2 := by
  have hlen : ys.length = n := by rw [hp.length_eq, lagsTo_len]
  match ys, hlen with
  | [], h => simp at h; omega
  | [_], h => simp at h; omega
  | x :: y :: r, _ =>
    have hmem : ∀ z, z ∈ x :: y :: r ↔ ∃ i : Nat, i < n ∧ lagAt a b limit i = z := fun z => by
      rw [hp.mem_iff]; simp [lagsTo]
    have hnd : ((x :: y :: r).map Prod.fst).Nodup := by
      have : ((lagsTo a b limit n).map Prod.fst).Nodup := by
        have e : (lagsTo a b limit n).map Prod.fst = (List.range n).map fun i : Nat => (i : Int) - limit := by simp [lagsTo, lagAt, Function.comp_def]
        rw [e]
        exact List.Pairwise.map _ (fun i j hij => by simp only [ne_eq]; omega) List.nodup_range
      exact ((hp.map Prod.fst).nodup_iff).2 this
    have hof : ∀ z ∈ x :: y :: r, z.2 = corr a b z.1 ∧ -limit ≤ z.1 ∧ z.1 ≤ limit := fun z hz => by
      obtain ⟨i, hi, rfl⟩ := (hmem z).1 hz
      refine ⟨rfl, ?_, ?_⟩ <;> (show _ ; simp only [lagAt]; omega)
    have hin : ∀ lag, -limit ≤ lag → lag ≤ limit → (lag, corr a b lag) ∈ x :: y :: r := fun lag h1 h2 => (hmem _).2 ⟨(lag + limit).toNat, by omega, by unfold lagAt; rw [show (((lag + limit).toNat : Nat) : Int) - limit = lag by omega]⟩
    obtain ⟨x1, x2, x3⟩ := hof x (by simp)
    obtain ⟨y1, y2, y3⟩ := hof y (by simp)
    have hxy : x.1 ≠ y.1 := fun e => by
      simp only [List.map_cons, List.nodup_cons, List.mem_cons] at hnd
      exact hnd.1 (.inl e)
    have hrest : ∀ lag, -limit ≤ lag → lag ≤ limit → lag ≠ x.1 → ∃ j : Nat, 1 ≤ j ∧ (x :: y :: r)[j]? = some (lag, corr a b lag) := fun lag h1 h2 hne => by
      obtain ⟨j, hj⟩ := List.mem_iff_getElem?.1 (hin lag h1 h2)
      refine ⟨j, ?_, hj⟩
      rcases j with _ | j
      · simp at hj; exact absurd (by rw [hj]) hne.symm
      · omega
    refine ⟨x, y, r, rfl, x1, ⟨x2, x3⟩, fun lag h1 h2 hne => ?_, fun lag h1 h2 hne => ?_, ⟨y.1, y2, y3, fun e => hxy e.symm, y1.symm⟩⟩
    · obtain ⟨j, hj1, hj⟩ := hrest lag h1 h2 hne
      have h3 := hs 0 j _ _ (by omega) rfl hj
      have h4 := mt (lagCmp_lt (lag, corr a b lag) x).2 (by omega)
      dsimp only at h4
      rw [← x1]
      omega
    · obtain ⟨j, hj1, hj⟩ := hrest lag h1 h2 hne
      rw [y1]
      rcases Nat.lt_or_ge 1 j with h5 | h5
      · have h3 := hs 1 j _ _ h5 rfl hj
        have h4 := mt (lagCmp_lt (lag, corr a b lag) y).2 (by omega)
        dsimp only at h4
        omega
      · obtain rfl : j = 1 := by omega
        simp at hj
        rw [hj]
        exact Int.le_refl _
/-- There is one. -/
theorem lag_some (a b : List Int) {limit : Int} (hl : 1 ≤ limit) : ∃ best other, LagOk (corr a b) limit best other := by
  have key : ∀ m : Nat, ∃ best, (-limit ≤ best ∧ best < -limit + (m + 1 : Nat)) ∧ ∀ lag, -limit ≤ lag → lag < -limit + (m + 1 : Nat) → lag ≠ best → lagCmp (best, corr a b best) (lag, corr a b lag) < 0 := fun m => by
    induction m with
    | zero => exact ⟨-limit, ⟨by omega, by omega⟩, fun lag h1 h2 h3 => by omega⟩
    | succ m ih =>
      obtain ⟨b0, hb, hB⟩ := ih
      by_cases h : lagCmp (b0, corr a b b0) (-limit + (m + 1 : Nat), corr a b (-limit + (m + 1 : Nat))) < 0
      · refine ⟨b0, ⟨hb.1, by omega⟩, fun lag h1 h2 h3 => ?_⟩
        by_cases e : lag = -limit + (m + 1 : Nat)
        · rw [e]; exact h
        · exact hB lag h1 (by omega) h3
      · refine ⟨-limit + (m + 1 : Nat), ⟨by omega, by omega⟩, fun lag h1 h2 h3 => ?_⟩
        rw [lagCmp_lt] at h ⊢
        by_cases e : lag = b0
        · subst e; dsimp only at h ⊢; omega
        · have := hB lag h1 (by omega) e
          rw [lagCmp_lt] at this
          dsimp only at h this ⊢
          omega
  obtain ⟨best, hb, hB⟩ := key (2 * limit).toNat
  have hB' : ∀ lag, -limit ≤ lag → lag ≤ limit → lag ≠ best → corr a b lag < corr a b best ∨ (corr a b lag = corr a b best ∧ (best.natAbs < lag.natAbs ∨ (best.natAbs = lag.natAbs ∧ best < lag))) := fun lag h1 h2 h3 => by
    have := hB lag h1 (by omega) h3
    rw [lagCmp_lt] at this
    exact this
  have hmax : ∀ m : Nat, (∃ lag, -limit ≤ lag ∧ lag < -limit + (m : Nat) ∧ lag ≠ best) → ∃ o, (∀ lag, -limit ≤ lag → lag < -limit + (m : Nat) → lag ≠ best → corr a b lag ≤ o) ∧ ∃ lag, -limit ≤ lag ∧ lag < -limit + (m : Nat) ∧ lag ≠ best ∧ corr a b lag = o := fun m => by
    induction m with
    | zero => rintro ⟨lag, h1, h2, _⟩; omega
    | succ m ih =>
      intro hx
      by_cases hp : ∃ lag, -limit ≤ lag ∧ lag < -limit + (m : Nat) ∧ lag ≠ best
      · obtain ⟨o, ho, l, l1, l2, l3, l4⟩ := ih hp
        by_cases e : -limit + (m : Nat) = best
        · exact ⟨o, fun lag h1 h2 h3 => ho lag h1 (by omega) h3, l, l1, by omega, l3, l4⟩
        · by_cases hc : corr a b (-limit + (m : Nat)) ≤ o
          · refine ⟨o, fun lag h1 h2 h3 => ?_, l, l1, by omega, l3, l4⟩
            by_cases e2 : lag = -limit + (m : Nat)
            · rw [e2]; exact hc
            · exact ho lag h1 (by omega) h3
          · refine ⟨corr a b (-limit + (m : Nat)), fun lag h1 h2 h3 => ?_, -limit + (m : Nat), by omega, by omega, e, rfl⟩
            by_cases e2 : lag = -limit + (m : Nat)
            · rw [e2]; exact Int.le_refl _
            · have := ho lag h1 (by omega) h3; omega
      · obtain ⟨lag, h1, h2, h3⟩ := hx
        have e2 : lag = -limit + (m : Nat) := by
          by_cases e2 : lag = -limit + (m : Nat)
          · exact e2
          · exact absurd ⟨lag, h1, by omega, h3⟩ hp
        subst e2
        refine ⟨corr a b (-limit + (m : Nat)), fun l g1 g2 g3 => ?_, _, h1, by omega, h3, rfl⟩
        by_cases e3 : l = -limit + (m : Nat)
        · rw [e3]; exact Int.le_refl _
        · exact absurd ⟨l, g1, by omega, g3⟩ hp
  obtain ⟨o, ho, l, l1, l2, l3, l4⟩ := hmax (2 * limit + 1).toNat (by
    by_cases e : best = limit
    · exact ⟨-limit, by omega, by omega, by omega⟩
    · exact ⟨limit, by omega, by omega, fun h => e h.symm⟩)
  exact ⟨best, o, ⟨hb.1, by omega⟩, hB', fun lag h1 h2 h3 => ho lag h1 (by omega) h3, l, l1, by omega, l3, l4⟩
end Go.Proofs.YtabmhfmglhjmjaaGreatDoor

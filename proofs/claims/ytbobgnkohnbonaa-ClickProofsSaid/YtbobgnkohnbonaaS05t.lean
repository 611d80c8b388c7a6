/- Chapter 5, plain: what the reference's rows have in common with the solution. -/
import Derived.Test.YtbobgnkohnbonaaS05s
set_option linter.unusedSimpArgs false
set_option linter.unusedVariables false
namespace Go.Proofs.Ytbobgnkohnbonaa
open Go.Ab

structure GjOk (n : Nat) (V0 : Nat → List Int) (D : Int) (N : Nat → Int) : Prop where
  len : ∀ i, i < n → (V0 i).length = n + 1
  ent : ∀ c i k, c ≤ n → i < n → k ≤ n → -4500000000000000000 ≤ gi (gjV V0 c i) (k : Nat) ∧ gi (gjV V0 c i) (k : Nat) ≤ 4500000000000000000
  m1 : ∀ c i k, c < n → i < n → k ≤ n → -4500000000000000000 ≤ gi (gjV V0 c c) (c : Nat) * gi (gjV V0 c i) (k : Nat) ∧ gi (gjV V0 c c) (c : Nat) * gi (gjV V0 c i) (k : Nat) ≤ 4500000000000000000
  m2 : ∀ c i k, c < n → i < n → k ≤ n → -4500000000000000000 ≤ gi (gjV V0 c i) (c : Nat) * gi (gjV V0 c c) (k : Nat) ∧ gi (gjV V0 c i) (c : Nat) * gi (gjV V0 c c) (k : Nat) ≤ 4500000000000000000
  fin : ∀ i, i < n → gi (gjV V0 n i) (i : Nat) ≠ 0 ∧ gi (gjV V0 n i) (n : Nat) * D = gi (gjV V0 n i) (i : Nat) * N i

def sumS (N : Nat → Int) (n : Nat) (row : List Int) : Int := sumTo (fun k => gi row (k : Nat) * N k) n
theorem gi_raw {a b : Int} {ri rc : List Int} {k : Nat} (h1 : k < ri.length) (h2 : k < rc.length) : gi (rawRow a b ri rc) (k : Nat) = a * gi ri (k : Nat) - b * gi rc (k : Nat) := gi_zipWith h1 h2

/-- What a row has in common with the left side M and the solution N / D. -/
def Prop1 (n : Nat) (D : Int) (N : Nat → Int) (V M : List Int) : Prop :=
  ∃ t : Int, t ≠ 0 ∧ t ∣ D ∧ (∀ k, k < n → gi V (k : Nat) = t * gi M (k : Nat)) ∧ t * sumS N n M = gi V (n : Nat) * D

theorem prim_step {n c : Nat} {D : Int} {N : Nat → Int} {Vi Vc Mi Mc M' : List Int} (hc : c < n) (hD : 0 < D) (li : Vi.length = n + 1) (lc : Vc.length = n + 1) (lmi : Mi.length = n) (lmc : Mc.length = n) (lm' : M'.length = n)
    (hi : Prop1 n D N Vi Mi) (hcv : Prop1 n D N Vc Mc) (hok : primOk n c Mc Mi M' = true) : Prop1 n D N (gjRow (gi Vc (c : Nat)) (gi Vi (c : Nat)) Vi Vc) M' := by
  obtain ⟨ti, ti0, tiD, hVi, hSi⟩ := hi
  obtain ⟨tc, tc0, tcD, hVc, hSc⟩ := hcv
  unfold primOk at hok
  simp only [Bool.and_eq_true, decide_eq_true_eq] at hok
  obtain ⟨⟨hm, hraw⟩, hprim⟩ := hok
  generalize gTo (rawRow (gi Mc (c : Nat)) (gi Mi (c : Nat)) Mi Mc) n = m at *
  -- the left side of the new row
  have hMk : ∀ k, k < n → gi Mc (c : Nat) * gi Mi (k : Nat) - gi Mi (c : Nat) * gi Mc (k : Nat) = m * gi M' (k : Nat) := fun k hk => by
    have := congrArg (fun l => gi l (k : Nat)) hraw
    rw [gi_raw (by omega) (by omega), gi_map (by omega)] at this
    exact this
  generalize hA : gi Vc (c : Nat) = A
  generalize hB : gi Vi (c : Nat) = B
  have hA' : A = tc * gi Mc (c : Nat) := by rw [← hA]; exact hVc c hc
  have hB' : B = ti * gi Mi (c : Nat) := by rw [← hB]; exact hVi c hc
  have hlr := rawRow_len (a := A) (b := B) (ri := Vi) (rc := Vc) (by rw [li, lc])
  rw [li] at hlr
  have hleft : ∀ k, k < n → gi (rawRow A B Vi Vc) (k : Nat) = tc * ti * m * gi M' (k : Nat) := fun k hk => by
    rw [gi_raw (by omega) (by omega), hVi k hk, hVc k hk, hA', hB']
    have := hMk k hk
    have e : tc * gi Mc (c : Nat) * (ti * gi Mi (k : Nat)) - ti * gi Mi (c : Nat) * (tc * gi Mc (k : Nat)) = tc * ti * (gi Mc (c : Nat) * gi Mi (k : Nat) - gi Mi (c : Nat) * gi Mc (k : Nat)) := by
      rw [Int.mul_sub]
      congr 1
      · rw [Int.mul_assoc, Int.mul_assoc]; congr 1; rw [← Int.mul_assoc, ← Int.mul_assoc, Int.mul_comm (gi Mc (c : Nat)) ti]
      · rw [Int.mul_assoc, ← Int.mul_assoc (gi Mi (c : Nat)), Int.mul_comm (gi Mi (c : Nat)) tc, Int.mul_assoc, ← Int.mul_assoc, Int.mul_comm ti tc]
    rw [e, this, ← Int.mul_assoc]
  have hright : gi (rawRow A B Vi Vc) (n : Nat) * D = tc * ti * m * sumS N n M' := by
    rw [gi_raw (by omega) (by omega), Int.sub_mul, Int.mul_assoc, ← hSi, Int.mul_assoc, ← hSc, hA', hB']
    have hS : gi Mc (c : Nat) * sumS N n Mi - gi Mi (c : Nat) * sumS N n Mc = m * sumS N n M' := by
      unfold sumS
      rw [← sumTo_mul, ← sumTo_mul, ← sumTo_mul]
      have : ∀ (f g : Nat → Int) (q : Nat), sumTo f q - sumTo g q = sumTo (fun i => f i - g i) q := fun f g q => by
        induction q with
        | zero => rfl
        | succ q ih => simp only [sumTo]; omega
      rw [this]
      refine sumTo_ext fun k hk => ?_
      rw [← Int.mul_assoc, ← Int.mul_assoc, ← Int.sub_mul, hMk k hk, Int.mul_assoc]
    have e : tc * gi Mc (c : Nat) * (ti * sumS N n Mi) - ti * gi Mi (c : Nat) * (tc * sumS N n Mc) = tc * ti * (gi Mc (c : Nat) * sumS N n Mi - gi Mi (c : Nat) * sumS N n Mc) := by
      rw [Int.mul_sub]
      congr 1
      · rw [Int.mul_assoc, Int.mul_assoc]; congr 1; rw [← Int.mul_assoc, ← Int.mul_assoc, Int.mul_comm (gi Mc (c : Nat)) ti]
      · rw [Int.mul_assoc, ← Int.mul_assoc (gi Mi (c : Nat)), Int.mul_comm (gi Mi (c : Nat)) tc, Int.mul_assoc, ← Int.mul_assoc, Int.mul_comm ti tc]
    rw [e, hS, ← Int.mul_assoc]
  -- the divisor
  have hg0 := gTo_nonneg (rawRow A B Vi Vc) (n + 1)
  have hs0 : tc * ti * m ≠ 0 := Int.mul_ne_zero (Int.mul_ne_zero tc0 ti0) (by omega)
  have hgd : ∀ k, k < n + 1 → gTo (rawRow A B Vi Vc) (n + 1) ∣ gi (rawRow A B Vi Vc) (k : Nat) := fun k hk => gTo_dvd hk
  have hgs : gTo (rawRow A B Vi Vc) (n + 1) ∣ tc * ti * m := by
    have := dvd_mul_gTo (raw := M') (d := gTo (rawRow A B Vi Vc) (n + 1)) (s := tc * ti * m) (n := n) fun k hk => by rw [← hleft k hk]; exact hgd k (by omega)
    rw [hprim, Int.mul_one] at this
    exact this
  have hgpos : 0 < gTo (rawRow A B Vi Vc) (n + 1) := by
    rcases Int.lt_or_eq_of_le hg0 with h | h
    · exact h
    · rw [← h] at hgs
      exact absurd (Int.zero_dvd.1 hgs) hs0
  have hdef : ∀ k, k < n + 1 → gTo (rawRow A B Vi Vc) (n + 1) * gi (gjRow A B Vi Vc) (k : Nat) = gi (rawRow A B Vi Vc) (k : Nat) := fun k hk => by
    unfold gjRow
    rw [hlr]
    by_cases h1 : 1 < gTo (rawRow A B Vi Vc) (n + 1)
    · rw [decide_eq_true h1, cond_true, gi_map (by omega)]
      exact Int.mul_tdiv_cancel' (hgd k hk)
    · rw [decide_eq_false h1, cond_false, show gTo (rawRow A B Vi Vc) (n + 1) = 1 by omega, Int.one_mul]
  have hall : ∀ d : Int, (∀ k, k < n + 1 → d ∣ gi (gjRow A B Vi Vc) (k : Nat)) → d ∣ 1 := fun d hd => by
    have h1 : gTo (rawRow A B Vi Vc) (n + 1) * d ∣ gTo (rawRow A B Vi Vc) (n + 1) := dvd_gTo fun k hk => by
      rw [← hdef k hk]; exact Int.mul_dvd_mul_left _ (hd k hk)
    obtain ⟨q, hq⟩ := h1
    refine ⟨q, ?_⟩
    have : gTo (rawRow A B Vi Vc) (n + 1) * 1 = gTo (rawRow A B Vi Vc) (n + 1) * (d * q) := by rw [Int.mul_one, ← Int.mul_assoc]; exact hq
    exact Int.eq_of_mul_eq_mul_left (by omega) this
  generalize gTo (rawRow A B Vi Vc) (n + 1) = g at *
  obtain ⟨t, ht⟩ := hgs
  have ht0 : t ≠ 0 := fun h => by rw [h, Int.mul_zero] at ht; exact hs0 ht
  have hnew : ∀ k, k < n → gi (gjRow A B Vi Vc) (k : Nat) = t * gi M' (k : Nat) := fun k hk => by
    have h1 := hdef k (by omega)
    rw [hleft k hk, ht, Int.mul_assoc] at h1
    exact Int.eq_of_mul_eq_mul_left (by omega) h1
  have hrel : t * sumS N n M' = gi (gjRow A B Vi Vc) (n : Nat) * D := by
    have h1 := hdef n (by omega)
    have h2 : g * (gi (gjRow A B Vi Vc) (n : Nat) * D) = g * (t * sumS N n M') := by
      rw [← Int.mul_assoc, h1, hright, ht, Int.mul_assoc]
    exact (Int.eq_of_mul_eq_mul_left (by omega) h2).symm
  refine ⟨t, ht0, ?_, hnew, hrel⟩
  -- t divides D
  have hgcd : Int.gcd t (gi (gjRow A B Vi Vc) (n : Nat)) = 1 := by
    have h1 : (Int.gcd t (gi (gjRow A B Vi Vc) (n : Nat)) : Int) ∣ 1 := hall _ fun k hk => by
      by_cases e : k = n
      · subst e; exact Int.gcd_dvd_right _ _
      · rw [hnew k (by omega)]; exact Int.dvd_mul_of_dvd_left (Int.gcd_dvd_left _ _)
    have := Int.le_of_dvd (by omega) h1
    have h2 : 0 < Int.gcd t (gi (gjRow A B Vi Vc) (n : Nat)) := Int.gcd_pos_of_ne_zero_left _ ht0
    omega
  have h5 : t.natAbs ∣ (gi (gjRow A B Vi Vc) (n : Nat)).natAbs * D.natAbs := by
    rw [← Int.natAbs_mul]
    exact Int.natAbs_dvd_natAbs.2 ⟨sumS N n M', hrel.symm⟩
  have h6 : Nat.Coprime t.natAbs (gi (gjRow A B Vi Vc) (n : Nat)).natAbs := hgcd
  exact Int.natAbs_dvd_natAbs.1 (h6.dvd_of_dvd_mul_left h5)

theorem sumTo_abs2 {u b : Nat → Int} {c : Int} : ∀ {n : Nat}, (∀ j, j < n → -c ≤ b j ∧ b j ≤ c) → (sumTo (fun j => u j * b j) n).natAbs ≤ sumTo (fun j => ((u j).natAbs : Int)) n * c
  | 0, _ => by simp [sumTo]
  | n + 1, h => by
    have ih := sumTo_abs2 (u := u) (n := n) fun j hj => h j (by omega)
    have hb := h n (by omega)
    have hm := mulAbs (f := u n) (x := b n) (a := ((u n).natAbs : Int)) (b := c) (by omega) hb
    simp only [sumTo]
    rw [Int.add_mul]
    omega
theorem sol_eq {a e n : Nat} {b : List Int} (hk : SolOk a e n) {r : Nat} (hr : r < n) : sumTo (fun k => matA a e n r k * solN (finSol a e n) b n k) n = finD a e n * gi b (r : Nat) := by
  have e1 : sumTo (fun k => matA a e n r k * solN (finSol a e n) b n k) n = sumTo (fun k => sumTo (fun j => matA a e n r k * gi (rowL (finSol a e n) k) (j : Nat) * gi b (j : Nat)) n) n := by
    refine sumTo_ext fun k hkn => ?_
    unfold solN
    rw [← sumTo_mul]
    exact sumTo_ext fun j hj => (Int.mul_assoc _ _ _).symm
  rw [e1, sumTo_comm]
  have e2 : ∀ j, j < n → sumTo (fun k => matA a e n r k * gi (rowL (finSol a e n) k) (j : Nat) * gi b (j : Nat)) n = gi b (j : Nat) * (bif r == j then finD a e n else 0) := fun j hj => by
    rw [← hk.inv r j hr hj, ← sumTo_mul]
    exact sumTo_ext fun k _ => Int.mul_comm _ _
  rw [sumTo_ext e2]
  have hplus : ∀ m, sumTo (fun j => gi b (j : Nat) * (bif r == j then finD a e n else 0)) m = if r < m then finD a e n * gi b (r : Nat) else 0 := fun m => by
    induction m with
    | zero => simp [sumTo]
    | succ m ih =>
      simp only [sumTo]
      rw [ih]
      by_cases h1 : r = m
      · subst h1
        rw [if_neg (by omega), if_pos (by omega), beq_self_eq_true, cond_true, Int.mul_comm]; omega
      · rw [show (r == m) = false by simpa using h1, cond_false, Int.mul_zero]
        by_cases h2 : r < m
        · rw [if_pos h2, if_pos (by omega)]; omega
        · rw [if_neg h2, if_neg (by omega)]; omega
  rw [hplus n, if_pos hr]

theorem gj_ok {a e n : Nat} {b : List Int} (hn : n ≤ 8) (hgB : goodB a e n = true) (hgG : goodG a e n = true) (hb : ∀ j, j < n → -524272 ≤ gi b (j : Nat) ∧ gi b (j : Nat) ≤ 524272) :
    GjOk n (fun i => realR n b (rowS (start a e n) 0 i)) (finD a e n) (solN (finSol a e n) b n) := by
  obtain ⟨hSt, _, _⟩ := good_parts hgB
  have hk := sol_ok hgB
  have hD : 0 < finD a e n := (hSt n (Nat.le_refl n)).piv.1
  have hL0 : ∀ {i : Nat}, i < n → n ≤ (rowS (start a e n) 0 i).length := fun hi => by rw [rowS_len hSt (Nat.zero_le n) hi]; omega
  unfold goodG goodGB at hgG
  simp only [Bool.and_eq_true, decide_eq_true_eq] at hgG
  obtain ⟨⟨⟨⟨⟨h1, h2⟩, h3⟩, h4⟩, h5⟩, h6, h7⟩ := hgG
  generalize mBound a e n = B at *
  generalize yBound (finD a e n) (finSol a e n) = Y at *
  have hchk := gchk_ok (M0 := leftL a e n) n 0 h1
  simp only [Nat.zero_add] at hchk
  obtain ⟨hS, hX, hU⟩ := hchk
  have hMg : ∀ {c i : Nat}, c ≤ n → i < n → (gstg (leftL a e n) c)[i]? = some (rowL (gstg (leftL a e n) c) i) := fun {c i} hc hi => by
    unfold rowL
    rw [List.getD_eq_getElem?_getD, List.getElem?_eq_getElem (by rw [(hS c hc).2]; exact hi)]
    rfl
  have hMl : ∀ {c i : Nat}, c ≤ n → i < n → (rowL (gstg (leftL a e n) c) i).length = n := fun hc hi => (smallM_get h2 (hS _ hc).1 (hMg hc hi)).1
  have hMb : ∀ {c i : Nat}, c ≤ n → i < n → ∀ k : Nat, -B ≤ gi (rowL (gstg (leftL a e n) c) i) k ∧ gi (rowL (gstg (leftL a e n) c) i) k ≤ B := fun hc hi => (smallM_get h2 (hS _ hc).1 (hMg hc hi)).2
  have hV0l : ∀ i, i < n → (realR n b (rowS (start a e n) 0 i)).length = n + 1 := fun i hi => realR_len (hL0 hi)
  have hVl := gjV_len (V0 := fun i => realR n b (rowS (start a e n) 0 i)) hV0l
  -- the invariant
  have inv : ∀ c, c ≤ n → ∀ i, i < n → Prop1 n (finD a e n) (solN (finSol a e n) b n) (gjV (fun i => realR n b (rowS (start a e n) 0 i)) c i) (rowL (gstg (leftL a e n) c) i) := by
    intro c
    induction c with
    | zero =>
      intro _ i hi
      have hM0 : ∀ k, k < n → gi (rowL (gstg (leftL a e n) 0) i) (k : Nat) = matA a e n i k := fun k hkn => by simp [rowL, gstg, leftL, gi, hi, hkn]
      refine ⟨1, by omega, Int.one_dvd _, fun k hkn => ?_, ?_⟩
      · show gi (realR n b (rowS (start a e n) 0 i)) (k : Nat) = _
        rw [realR_left (hL0 hi) hkn, rowS_start hi, hM0 k hkn]
        simp [gi, List.getElem?_append, hkn]
      · show 1 * sumS _ n _ = gi (realR n b (rowS (start a e n) 0 i)) (n : Nat) * _
        rw [realR_right (hL0 hi), Int.one_mul]
        unfold sumS
        rw [sumTo_ext fun k hkn => by rw [hM0 k hkn], sol_eq hk hi, Int.mul_comm]
        congr 1
        rw [rowS_start hi]
        have e2 : ∀ j, j < n → gi (((List.range n).map fun p => matA a e n i p) ++ idRow n i) ((n + j : Nat) : Int) * gi b (j : Nat) = if j = i then gi b (i : Nat) else 0 := fun j hj => by
          have : ((n + j : Nat) : Int).toNat = n + j := by omega
          have e3 : gi (((List.range n).map fun p => matA a e n i p) ++ idRow n i) ((n + j : Nat) : Int) = bif j == i then 1 else 0 := by
            unfold gi
            rw [this]
            simp [idRow, hj]
          rw [e3]
          by_cases h : j = i
          · subst h; rw [beq_self_eq_true, cond_true, if_pos rfl, Int.one_mul]
          · rw [show (j == i) = false by simpa using h, cond_false, if_neg h, Int.zero_mul]
        rw [sumTo_ext e2]
        have hone : ∀ m, sumTo (fun j => if j = i then gi b (i : Nat) else 0) m = if i < m then gi b (i : Nat) else 0 := fun m => by
          induction m with
          | zero => simp [sumTo]
          | succ m ih =>
            simp only [sumTo]
            rw [ih]
            by_cases h1 : m = i
            · subst h1; rw [if_neg (by omega), if_pos rfl, if_pos (by omega)]; omega
            · rw [if_neg h1]
              by_cases h2 : i < m
              · rw [if_pos h2, if_pos (by omega)]; omega
              · rw [if_neg h2, if_neg (by omega)]; omega
        rw [hone n, if_pos hi]
    | succ c ih =>
      intro hc i hi
      have hi1 := ih (by omega) i hi
      have hc1 := ih (by omega) c (by omega)
      have g1 := hMg (c := c) (i := i) (by omega) hi
      have g2 := hMg (c := c + 1) (i := i) hc hi
      have g3 := gnext_get (c := c) (rc := (gstg (leftL a e n) c).getD c []) (s := 0) g1
      have g4 : (gstg (leftL a e n) (c + 1))[i]? = some (bif Nat.beq (0 + i) c || decide (gi (rowL (gstg (leftL a e n) c) i) (c : Nat) = 0) then rowL (gstg (leftL a e n) c) i else primRow c ((gstg (leftL a e n) c).getD c []) (rowL (gstg (leftL a e n) c) i)) := g3
      rw [g2, Nat.zero_add] at g4
      have g5 := Option.some.inj g4
      have hcond : (decide (i = c) || decide (gi (gjV (fun i => realR n b (rowS (start a e n) 0 i)) c i) (c : Nat) = 0)) = (Nat.beq i c || decide (gi (rowL (gstg (leftL a e n) c) i) (c : Nat) = 0)) := by
        obtain ⟨t, t0, _, hv, _⟩ := hi1
        rw [hv c (by omega)]
        congr 1
        · by_cases h : i = c
          · subst h; simp
          · rw [decide_eq_false h]
            cases hq : Nat.beq i c
            · rfl
            · exact absurd (Nat.eq_of_beq_eq_true hq) h
        · refine decide_eq_decide.2 ⟨fun h => ?_, fun h => by rw [h, Int.mul_zero]⟩
          rcases Int.mul_eq_zero.1 h with h | h
          · exact absurd h t0
          · exact h
      simp only [gjV]
      rw [hcond]
      cases hq : Nat.beq i c || decide (gi (rowL (gstg (leftL a e n) c) i) (c : Nat) = 0)
      · rw [hq, cond_false] at g5
        rw [cond_false]
        have hok := gexact_get (hX c (by omega)) g1 g2 (by rw [Nat.zero_add]; exact hq)
        exact prim_step (by omega) hD (hVl c (by omega) i hi) (hVl c (by omega) c (by omega)) (hMl (by omega) hi) (hMl (by omega) (by omega)) (hMl hc hi) hi1 hc1 hok
      · rw [hq, cond_true] at g5
        rw [cond_true, g5]
        exact hi1
  -- bounds
  have hN : ∀ k, k < n → -(Y * finD a e n * 524272) ≤ solN (finSol a e n) b n k ∧ solN (finSol a e n) b n k ≤ Y * finD a e n * 524272 := fun k hkn => by
    have h8 := sumTo_abs2 (u := fun j => gi (rowL (finSol a e n) k) (j : Nat)) (b := fun j => gi b (j : Nat)) (c := 524272) (n := n) hb
    have h9 := of_decide_eq_true (allN_get h4 hkn)
    have h10 := Int.mul_le_mul_of_nonneg_right h9 (show (0 : Int) ≤ 524272 by omega)
    have : solN (finSol a e n) b n k = sumTo (fun j => gi (rowL (finSol a e n) k) (j : Nat) * gi b (j : Nat)) n := rfl
    omega
  have hbl : ∀ {V M : List Int}, Prop1 n (finD a e n) (solN (finSol a e n) b n) V M → (∀ k : Nat, -B ≤ gi M k ∧ gi M k ≤ B) →
      (∀ k, k < n → -(finD a e n * B) ≤ gi V (k : Nat) ∧ gi V (k : Nat) ≤ finD a e n * B) ∧ (-(n * (finD a e n * B) * Y * 524272) ≤ gi V (n : Nat) ∧ gi V (n : Nat) ≤ n * (finD a e n * B) * Y * 524272) := fun {V M} hp hM => by
    obtain ⟨t, t0, tD, hv, hr⟩ := hp
    have htD : -finD a e n ≤ t ∧ t ≤ finD a e n := by
      have h := Int.le_of_dvd hD (Int.natAbs_dvd.2 tD)
      omega
    refine ⟨fun k hkn => by rw [hv k hkn]; exact mulAbs htD (hM k), ?_⟩
    have hSb := sumTo_abs (f := fun k => gi M (k : Nat) * solN (finSol a e n) b n k) (c := B * (Y * finD a e n * 524272)) (n := n) fun i hi => mulAbs (hM i) (hN i hi)
    have e1 : (n : Int) * (B * (Y * finD a e n * 524272)) = n * (finD a e n * B) * Y * 524272 := by
      rw [Int.mul_assoc (n : Int), Int.mul_assoc (n : Int)]
      congr 1
      rw [← Int.mul_assoc, ← Int.mul_assoc]
      congr 1
      rw [Int.mul_assoc, Int.mul_comm Y, ← Int.mul_assoc, Int.mul_comm B]
    rw [e1] at hSb
    have hS1 : sumTo (fun k => gi M (k : Nat) * solN (finSol a e n) b n k) n = sumS (solN (finSol a e n) b n) n M := rfl
    rw [hS1] at hSb
    generalize (n : Int) * (finD a e n * B) * Y * 524272 = W at *
    have hm := mulAbs htD hSb
    rw [hr] at hm
    constructor
    · have : -W * finD a e n ≤ gi V (n : Nat) * finD a e n := by rw [Int.neg_mul, Int.mul_comm W]; exact hm.1
      exact Int.le_of_mul_le_mul_right this hD
    · have : gi V (n : Nat) * finD a e n ≤ W * finD a e n := by rw [Int.mul_comm W]; exact hm.2
      exact Int.le_of_mul_le_mul_right this hD
  have hDB : 0 ≤ finD a e n * B := Int.mul_nonneg (by omega) h2
  have each : ∀ c i k, c ≤ n → i < n → k ≤ n → (k < n → -(finD a e n * B) ≤ gi (gjV (fun i => realR n b (rowS (start a e n) 0 i)) c i) (k : Nat) ∧ gi (gjV (fun i => realR n b (rowS (start a e n) 0 i)) c i) (k : Nat) ≤ finD a e n * B) ∧
      (k = n → -(n * (finD a e n * B) * Y * 524272) ≤ gi (gjV (fun i => realR n b (rowS (start a e n) 0 i)) c i) (k : Nat) ∧ gi (gjV (fun i => realR n b (rowS (start a e n) 0 i)) c i) (k : Nat) ≤ n * (finD a e n * B) * Y * 524272) := fun c i k hc hi hkn => by
    have h := hbl (inv c hc i hi) (hMb hc hi)
    exact ⟨h.1 k, fun e => by subst e; exact h.2⟩
  have prod : ∀ c i k, c < n → i < n → k ≤ n → ∀ x, (-(finD a e n * B) ≤ x ∧ x ≤ finD a e n * B) → -4500000000000000000 ≤ x * gi (gjV (fun i => realR n b (rowS (start a e n) 0 i)) c i) (k : Nat) ∧ x * gi (gjV (fun i => realR n b (rowS (start a e n) 0 i)) c i) (k : Nat) ≤ 4500000000000000000 := fun c i k hc hi hkn x hx => by
    obtain ⟨e1, e2⟩ := each c i k (by omega) hi hkn
    by_cases h : k = n
    · have := mulAbs hx (e2 h)
      omega
    · have h8 := mulAbs hx (e1 (by omega))
      have h9 : finD a e n * B * (finD a e n * B) ≤ 1000000 * 1000000 := Int.mul_le_mul h6 h6 hDB (by omega)
      omega
  refine ⟨hV0l, fun c i k hc hi hkn => ?_, fun c i k hc hi hkn => ?_, fun c i k hc hi hkn => ?_, fun i hi => ?_⟩
  · obtain ⟨e1, e2⟩ := each c i k hc hi hkn
    by_cases h : k = n
    · have := e2 h; omega
    · have := e1 (by omega); omega
  · exact prod c i k hc hi hkn _ ((each c c c (by omega) hc (by omega)).1 hc)
  · exact prod c c k hc hc hkn _ ((each c i c (by omega) hi (by omega)).1 hc)
  · obtain ⟨t, t0, tD, hv, hr⟩ := inv n (Nat.le_refl n) i hi
    unfold unitM at hU
    have hu := allN_get hU hi
    rw [Bool.and_eq_true, decide_eq_true_eq] at hu
    have hz : ∀ k, k < n → k ≠ i → gi (rowL (gstg (leftL a e n) n) i) (k : Nat) = 0 := fun k hkn hki => by
      have := allN_get hu.2 hkn
      rw [Bool.or_eq_true, decide_eq_true_eq] at this
      rcases this with h | h
      · exact absurd (Nat.eq_of_beq_eq_true h) hki
      · exact h
    refine ⟨by rw [hv i hi]; exact Int.mul_ne_zero t0 hu.1, ?_⟩
    rw [← hr, hv i hi, Int.mul_assoc]
    congr 1
    unfold sumS
    have hone : ∀ m, m ≤ n → sumTo (fun k => gi (rowL (gstg (leftL a e n) n) i) (k : Nat) * solN (finSol a e n) b n k) m = if i < m then gi (rowL (gstg (leftL a e n) n) i) (i : Nat) * solN (finSol a e n) b n i else 0 := fun m hm => by
      induction m with
      | zero => simp [sumTo]
      | succ m ih =>
        simp only [sumTo]
        rw [ih (by omega)]
        by_cases h1 : m = i
        · subst h1; rw [if_neg (by omega), if_pos (by omega)]; omega
        · rw [hz m (by omega) h1, Int.zero_mul]
          by_cases h2 : i < m
          · rw [if_pos h2, if_pos (by omega)]; omega
          · rw [if_neg h2, if_neg (by omega)]; omega
    rw [hone n (Nat.le_refl n), if_pos hi]
end Go.Proofs.Ytbobgnkohnbonaa

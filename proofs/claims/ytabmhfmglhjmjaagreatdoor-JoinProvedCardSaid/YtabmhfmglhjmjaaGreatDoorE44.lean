import Derived.Test.YtabmhfmglhjmjaaGreatDoorE41
import Derived.Test.YtabmhfmglhjmjaaGreatDoorS07h
set_option maxRecDepth 100000
set_option maxHeartbeats 4000000
set_option linter.unusedSimpArgs false
set_option linter.unusedVariables false
set_option linter.unusedSectionVars false
namespace Go.Proofs.YtabmhfmglhjmjaaGreatDoor
open Go.Ab Go.RowKit
variable [Dr]
theorem prBad_le {ts : List Tf} {G : Nat} {c : Int} {pp : List (List Int)} {K : Nat} (h : prBad ts G c pp K = false) {k j : Nat} (hk : k < K) (hj : j < ts.length) (hd : dvn ts G k j ≠ -1) : badP ts G c pp k j = false := by
  have h1 := any_no.1 h k hk
  unfold badR at h1
  have h2 := any_no.1 h1 j hj
  unfold badQ at h2
  rw [show (dvn ts G k j != -1) = true by simpa using hd, Bool.true_and] at h2
  exact h2
theorem mem_costs {row : List Int} {f : Nat → Int} {n i : Nat} (hi : i < n) (h : (gi row i != -1) = true) : f i ∈ costsTo row f n := List.mem_of_getElem? (costsTo_at hi h)
theorem bound_le {ts : List Tf} {G : Nat} {c : Int} {pp : List (List Int)} {K : Nat} (hK : 1 ≤ K) (h : prBad ts G c pp K = false) {s : Nat → Nat} (hs : Good7 (dvn ts G) K ts.length s) : (bdT ts G pp K ts.length).1 ≤ costTo (dvn ts G) c s K := by
  have h0 := price_le (dv := dvn ts G) (c := c) (K := K) (T := ts.length) (pr := pvP pp) (fun j hj hd => by
    have := prBad_le h (k := 0) (by omega) hj hd
    have := of_decide_eq_false (show decide (dvn ts G 0 j < pvP pp 0 j) = false from this)
    omega) (fun k i j hk hi hj hdi hdj => by
    have hb := prBad_le h (k := k + 1) hk hj hdj
    have hb : ((bfC ts G c pp k j ts.length).any fun v => decide (v + dvn ts G (k + 1) j < pvP pp (k + 1) j)) = false := hb
    have hm : pvP pp k i + chg c i j ∈ bfC ts G c pp k j ts.length := mem_costs hi (by rw [gi_devRow hi]; simpa using hdi)
    rw [List.any_eq_false] at hb
    have := hb _ hm
    simp at this
    omega) hs (K - 1) (by omega)
  rw [show K - 1 + 1 = K by omega] at h0
  have := (bdT_le (pp := pp) (n := ts.length) (hs (K - 1) (by omega)).1 (hs (K - 1) (by omega)).2).2
  omega
def prRow (ts : List Tf) (G : Nat) (c : Int) (k : Nat) : List Int := (List.range ts.length).map (pr7 (dvn ts G) c ts.length k)
def prL (ts : List Tf) (G : Nat) (c : Int) (k : Nat) : List (List Int) := (List.range k).map (prRow ts G c)
theorem prRow_len (ts : List Tf) (G : Nat) (c : Int) (k : Nat) : (prRow ts G c k).length = ts.length := by simp [prRow]
theorem prL_len (ts : List Tf) (G : Nat) (c : Int) (k : Nat) : (prL ts G c k).length = k := by simp [prL]
theorem gS_prL {ts : List Tf} {G : Nat} {c : Int} {m k : Nat} (h : k < m) : gS (prL ts G c m) k = prRow ts G c k := by simp [gS, prL, h]
theorem prL_succ (ts : List Tf) (G : Nat) (c : Int) (k : Nat) : prL ts G c k ++ [prRow ts G c k] = prL ts G c (k + 1) := by simp [prL, List.range_succ]
theorem pvP_prL {ts : List Tf} {G : Nat} {c : Int} {m k i : Nat} (h : k < m) (hi : i < ts.length) : pvP (prL ts G c m) k i = pr7 (dvn ts G) c ts.length k i := by
  unfold pvP; rw [gS_prL h]; simp [gi, prRow, hi]
theorem pr7_never {dv : Nat → Nat → Int} {c : Int} {T k j : Nat} (h : dv k j = -1) : pr7 dv c T k j = 0 := by
  cases k with
  | zero => rw [pr7, h]; rfl
  | succ k => rw [pr7, h]; rfl
theorem pr7_rng {dv : Nat → Nat → Int} {c : Int} {K T : Nat} {nm : Nat → ByteArray} (h : Dp dv c K T nm 20000000) (hc : c ≤ 1000000) (hK : K ≤ 20) {k : Nat} (hk : k < K) (j : Nat) : 0 ≤ pr7 dv c T k j ∧ pr7 dv c T k j ≤ 420000000 := by
  by_cases hd : dv k j = -1
  · rw [pr7_never hd]; omega
  · obtain ⟨h1, h2, _⟩ := pr7_ok h k hk j hd
    have h3 : ((k : Int) + 1) * (20000000 + c) ≤ 20 * 21000000 := Int.mul_le_mul (by omega) (by omega) (by have := h.c0; omega) (by omega)
    omega
theorem bL_before {ts : List Tf} {G : Nat} {c : Int} {m k j : Nat} (hk : k < m) : bL (bfC ts G c (prL ts G c m) k j ts.length) = bestN (fun i => dvn ts G k i != -1) (fun i => pr7 (dvn ts G) c ts.length k i + chg c i j) ts.length := by
  unfold bfC
  rw [bL_costs]
  refine bestN_congr _ (fun i hi => by rw [gi_devRow hi]) (fun i hi _ => by rw [pvP_prL hk hi])
theorem pr7_bad {ts : List Tf} {n g c : Int} {N G : Nat} (hT : TkOk ts n g c N G) (hg : ∀ k, k < N → gap7 ts G k = false) : prBad ts G c (prL ts G c N) N = false := by
  have hdp := tk_dp hT hg
  refine any_no.2 fun k hk => any_no.2 fun j hj => ?_
  unfold badQ
  cases hd : dvn ts G k j != -1
  · rfl
  · have hd' : dvn ts G k j ≠ -1 := by simpa using hd
    rw [Bool.true_and]
    have e1 : pvP (prL ts G c N) k j = pr7 (dvn ts G) c ts.length k j := pvP_prL hk hj
    cases k with
    | zero =>
      show decide (dvn ts G 0 j < pvP (prL ts G c N) 0 j) = false
      rw [e1, pr7, show (dvn ts G 0 j == -1) = false by simpa using hd']
      exact decide_eq_false (by rw [cond_false]; omega)
    | succ k =>
      show ((bfC ts G c (prL ts G c N) k j ts.length).any fun v => decide (v + dvn ts G (k + 1) j < pvP (prL ts G c N) (k + 1) j)) = false
      rw [e1, pr7, show (dvn ts G (k + 1) j == -1) = false by simpa using hd', cond_false]
      unfold bfC
      rw [costsTo_any]
      refine any_no.2 fun i hi => ?_
      rw [gi_devRow hi]
      cases hi1 : dvn ts G k i != -1
      · rfl
      · rw [Bool.true_and, pvP_prL (by omega) hi]
        have hnn : ∀ i, i < ts.length → (fun i => dvn ts G k i != -1) i = true → 0 ≤ (fun i => pr7 (dvn ts G) c ts.length k i + chg c i j) i := fun i _ hi => by
          have a1 := (pr7_ok hdp k (by omega) i (by simpa using hi)).1
          have a2 := (chg_bound hdp.c0 i j).1
          show 0 ≤ pr7 (dvn ts G) c ts.length k i + chg c i j
          omega
        rcases bestN_ok ts.length hnn with ⟨_, b2⟩ | ⟨i', b1, b2, b3, b4⟩
        · have := b2 i hi
          rw [hi1] at this; cases this
        · have := b4 i hi hi1
          rw [b3]
          exact decide_eq_false (by omega)
theorem pr7_err {ts : List Tf} {n g c : Int} {N G : Nat} (hT : TkOk ts n g c N G) (hg : ∀ k, k < N → gap7 ts G k = false) : prErr ts G c (prL ts G c N) N = 0 := by
  have hdp := tk_dp hT hg
  have hcb := hT.cb
  have h1 : prE1 (prL ts G c N) N ts.length = 0 := by
    unfold prE1
    rw [prL_len, bne_self_eq_false, cond_false, fb7_zero]
    intro k hk
    unfold pcR
    rw [gS_prL hk, prRow_len, beq_self_eq_true]
    have : ((prRow ts G c k).any fun n => !within n (-1000000000) 1000000000) = false := by
      rw [List.any_eq_false]
      intro v hv
      unfold prRow at hv
      obtain ⟨i, _, rfl⟩ := List.mem_map.1 hv
      have := pr7_rng hdp (by omega) hT.K20 hk i
      rw [within_iff.2 (by omega)]; simp
    rw [this]; rfl
  unfold prErr
  rw [h1, pr7_bad hT hg]; rfl
theorem bdT_best {ts : List Tf} {n g c : Int} {N G : Nat} (hT : TkOk ts n g c N G) (hg : ∀ k, k < N → gap7 ts G k = false) : (bdT ts G (prL ts G c N) N ts.length).1 = total7 (dvn ts G) c N ts.length := by
  have hdp := tk_dp hT hg
  have hK1 := hT.K1
  have key : ∀ m, m ≤ ts.length → bdT ts G (prL ts G c N) N m = (lsB (bestN (fun j => dvn ts G (N - 1) j != -1) (pr7 (dvn ts G) c ts.length (N - 1)) m), bestN (fun j => dvn ts G (N - 1) j != -1) (pr7 (dvn ts G) c ts.length (N - 1)) m != -1) := by
    intro m
    induction m with
    | zero => intro _; rfl
    | succ m ih =>
      intro hm
      have ih := ih (by omega)
      rw [bdT, bestN, ih, pvP_prL (by omega) (by omega)]
      obtain ⟨b, hb⟩ : ∃ b, b = bestN (fun j => dvn ts G (N - 1) j != -1) (pr7 (dvn ts G) c ts.length (N - 1)) m := ⟨_, rfl⟩
      rw [← hb]
      cases hd : dvn ts G (N - 1) m != -1
      · rfl
      · have h0 := (pr7_ok hdp (N - 1) (by omega) m (by simpa using hd)).1
        rw [cond_true, Bool.true_and]
        dsimp only
        have hp : ∀ p : Int, 0 ≤ p → lsB p = p ∧ (p != -1) = true := fun p h => by
          have : (p == -1) = false := beq_false_of_ne (by omega)
          refine ⟨by unfold lsB; rw [this]; rfl, by unfold bne; rw [this]; rfl⟩
        cases hb1 : b == -1
        · have hb2 : (b != -1) = true := by unfold bne; rw [hb1]; rfl
          have hb3 : lsB b = b := by unfold lsB; rw [hb1]; rfl
          rw [hb2, hb3, Bool.not_true, Bool.false_or]
          cases hl : decide (pr7 (dvn ts G) c ts.length (N - 1) m < b)
          · rw [cond_false, cond_false, hb3, hb2]
          · rw [cond_true, cond_true, (hp _ h0).1, (hp _ h0).2]
        · have hb2 : (b != -1) = false := by unfold bne; rw [hb1]; rfl
          rw [hb2, Bool.not_false, Bool.true_or, Bool.true_or, cond_true, cond_true, (hp _ h0).1, (hp _ h0).2]
  rw [key _ (Nat.le_refl _), pr7_bound hdp]
  have h0 : 0 ≤ total7 (dvn ts G) c N ts.length := by
    rw [← cost_total hdp]
    exact (by
      have hgd := ch7_good hdp
      have : ∀ k, k ≤ N → 0 ≤ costTo (dvn ts G) c (ch7 (dvn ts G) c N ts.length (fun i => (gt7 ts i).nm)) k := fun k => by
        induction k with
        | zero => intro _; exact Int.le_refl _
        | succ k ih =>
          intro hk
          have ih := ih (by omega)
          have h1 := (hgd k (by omega)).2
          have h2 := hdp.rng k (ch7 (dvn ts G) c N ts.length (fun i => (gt7 ts i).nm) k)
          have h3 := (chg_bound hdp.c0 (ch7 (dvn ts G) c N ts.length (fun i => (gt7 ts i).nm) (k - 1)) (ch7 (dvn ts G) c N ts.length (fun i => (gt7 ts i).nm) k)).1
          rw [costTo]
          cases k == 0
          · rw [cond_false]; omega
          · rw [cond_true]; omega
      exact this N (Nat.le_refl _))
  show lsB _ = _
  unfold lsB
  rw [show (total7 (dvn ts G) c N ts.length == -1) = false from beq_false_of_ne (by omega)]; rfl
end Go.Proofs.YtabmhfmglhjmjaaGreatDoor

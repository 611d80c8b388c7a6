import Derived.Test.YtbobgnkohnbonaaC20
import Derived.Test.YtbobgnkohnbonaaS05r
import Derived.Test.YtbobgnkohnbonaaC13
set_option maxRecDepth 100000
set_option maxHeartbeats 4000000
set_option linter.unusedSimpArgs false
set_option linter.unusedVariables false
namespace Go.Proofs.Ytbobgnkohnbonaa
open Go.Ab Go.RowKit
def low2 (P b : Nat) : AV → Bool
  | .ls k _ _ _ => Nat.blt k b && !Nat.beq k P
  | .lp k _ => Nat.blt k b && !Nat.beq k P
  | a => a.plain
def low2F (P b : Nat) : List (Nat × AV) → Bool
  | [] => true
  | p :: l => low2 P b p.2 && low2F P b l
theorem ren_low2 {P b : Nat} {r : Nat → Nat} (hr : ∀ k, k < b → k ≠ P → r k = k) {a : AV} (h : low2 P b a = true) : a.ren r = a := by
  unfold low2 at h
  have e : ∀ k, (Nat.blt k b && !Nat.beq k P) = true → r k = k := fun k hk => by
    simp only [Bool.and_eq_true, Bool.not_eq_true'] at hk
    refine hr k (Nat.le_of_ble_eq_true hk.1) fun e => ?_
    subst e
    have := hk.2
    simp at this
  split at h
  · simp only [AV.ren]; rw [e _ h]
  · simp only [AV.ren]; rw [e _ h]
  · exact ren_plain r _ h
theorem slots_low2 {P b : Nat} {r : Nat → Nat} (hr : ∀ k, k < b → k ≠ P → r k = k) {fr : List (Nat × AV)} : ∀ {l : List (Nat × AV)}, slotsE fr l → low2F P b l = true → slots r fr l
  | [], _, _ => True.intro
  | p :: l, ⟨h1, h2⟩, hb => by
    simp only [low2F, Bool.and_eq_true] at hb
    refine ⟨?_, slots_low2 hr h2 hb.2⟩
    rw [h1]
    dsimp only
    rw [ren_low2 hr hb.1]
    exact Sb.refl _
theorem rorC_succ (b m : Nat) (ph : Nat → List Int) (l : List Int) : rorC b (m + 1) (updP ph m l) = rorC b m ph ++ [.ls (b + m) 0 1 l.length] := by
  unfold rorC
  rw [List.range_succ, List.map_append]
  congr 1
  · refine List.map_congr_left fun j hj => ?_
    have := List.mem_range.1 hj
    rw [updP_ne (by omega)]
  · simp [updP]
theorem ent_ror_snoc {σ : St} {R : Hp} {P b m s : Nat} {ph : Nat → List Int} {l : List Int} {fr : List (Nat × AV)} {n : Nat × Nat × Nat} (hP : P < b) (hR : LowH b P R) (hn0 : n.2.1 = 0) (hn : n = σ.n) (hx : σ.nx = b + m + 3)
    (hs : lk σ.fr s = some (.ls (b + m + 2) 0 1 (m + 1))) (hf : slotsE σ.fr fr) (hl2 : low2F P b fr = true)
    (h1 : σ.hp (b + m + 2) = some (rorC b m ph ++ [.ls (b + m) 0 1 l.length])) (h2 : σ.hp (b + m) = some (ints l)) (h3 : ∀ j, j < m → σ.hp (b + j) = some (ints (ph j))) (h4 : ∀ k c, R k = some c → σ.hp k = some c) :
    Ent σ ⟨(s, .ls P 0 1 (m + 1)) :: fr, ror R P b (m + 1) (updP ph m l), b + m + 1, n⟩ := by
  let r : Nat → Nat := fun k => if k = P then b + m + 2 else if k < b + m + 1 then k else k + 2
  have rP : r P = b + m + 2 := if_pos rfl
  have rl : ∀ k, k ≠ P → k < b + m + 1 → r k = k := fun k h1 h2 => by show (if _ then _ else _) = _; rw [if_neg h1, if_pos h2]
  have rg : ∀ k, b + m + 1 ≤ k → r k = k + 2 := fun k h => by show (if _ then _ else _) = _; rw [if_neg (by omega), if_neg (by omega)]
  refine ent_ren r ⟨?_, slots_low2 (fun k h1 h2 => rl k h2 (by omega)) hf hl2⟩ hn (fun k hk => by rw [← hn, hn0] at hk; omega) (fun k c hk => ?_) (fun k k' a1 a2 a3 => ?_) (fun k hk => ?_)
  · rw [hs]
    dsimp only [AV.ren]
    rw [rP]
    exact Sb.refl _
  · change ror R P b (m + 1) (updP ph m l) k = some c at hk
    by_cases e1 : k = P
    · subst e1
      rw [ror_P] at hk
      cases hk
      rw [rP, h1, ← rorC_succ]
      refine congrArg some ?_
      rw [renL_map]
      unfold rorC
      rw [List.map_map]
      refine List.map_congr_left fun j hj => ?_
      have := List.mem_range.1 hj
      simp only [Function.comp, AV.ren]
      rw [rl (b + j) (by omega) (by omega)]
    · unfold ror at hk
      rw [if_neg e1] at hk
      by_cases e2 : b ≤ k ∧ k < b + (m + 1)
      · rw [if_pos e2] at hk
        cases hk
        rw [ints_renL, rl k e1 (by omega)]
        by_cases e3 : k = b + m
        · subst e3
          rw [h2, show b + m - b = m by omega, updP_at]
        · obtain ⟨j, rfl⟩ : ∃ j, k = b + j := ⟨k - b, by omega⟩
          rw [h3 j (by omega), show b + j - b = j by omega, updP_ne (by omega)]
      · rw [if_neg e2] at hk
        obtain ⟨q1, q2, q3⟩ := hR k c hk
        rw [rl k e1 (by omega), renL_plain r c q3]
        exact h4 k c hk
  · have hlt : ∀ k, ror R P b (m + 1) (updP ph m l) k ≠ none → k < b + m + 1 := fun k h => by
      unfold ror at h
      by_cases h1 : k = P
      · omega
      · rw [if_neg h1] at h
        by_cases h2 : b ≤ k ∧ k < b + (m + 1)
        · omega
        · rw [if_neg h2] at h
          cases hq : R k with
          | none => exact absurd hq h
          | some c => have := hR k c hq; omega
    have b1 := hlt k a1
    have b2 := hlt k' a2
    by_cases e1 : k = P <;> by_cases e2 : k' = P
    · omega
    · rw [e1, rP, rl k' e2 b2] at a3; omega
    · rw [e2, rP, rl k e1 b1] at a3; omega
    · rw [rl k e1 b1, rl k' e2 b2] at a3; exact a3
  · have hk' : b + m + 1 ≤ k := hk
    refine ⟨?_, by rw [rg k hk', hx]; omega⟩
    show ror R P b (m + 1) (updP ph m l) k = none
    unfold ror
    rw [if_neg (by omega), if_neg (by omega)]
    cases hq : R k with
    | none => rfl
    | some c => have := hR k c hq; omega
theorem ror_zero (R : Hp) (P b : Nat) (ph : Nat → List Int) : ror R P b 0 ph = hset R P (some []) := by
  funext k
  unfold ror
  rw [hset']
  by_cases h : k = P
  · subst h; rw [if_pos rfl, beq_self_eq_true]; rfl
  · rw [if_neg h, if_neg (by omega), beq_ne (Ne.symm h)]
abbrev R86 : Hp := hls [(0, [iv 0, iv 0, .v (.slice none 0 0)])]
theorem rorC_one (b m : Nat) (ph : Nat → List Int) : oneL (rorC b m ph) = true := by
  simp [oneL, rorC, AV.one]
theorem R86_low (b : Nat) (h : 2 ≤ b) : LowH b 1 R86 := fun k c hk => by
  unfold R86 hls at hk
  rw [hset'] at hk
  cases e : (0 == k) with
  | true =>
    rw [e] at hk
    cases hk
    have : 0 = k := by simpa using e
    subst this
    exact ⟨by omega, by omega, rfl⟩
  | false => rw [e] at hk; cases hk
theorem R86_some {k : Nat} {c : List AV} (h : R86 k = some c) : k = 0 := by
  unfold R86 hls at h
  rw [hset'] at h
  cases e : (0 == k) with
  | true => have : 0 = k := by simpa using e
            exact this.symm
  | false => rw [e] at h; cases h
def gcdTo (D : Int) (sol : Nat → Int) : Nat → Int
  | 0 => D
  | i + 1 => (Int.gcd (gcdTo D sol i) (sol i) : Int)
theorem gcdTo_bound {D : Int} {sol : Nat → Int} (hD : 0 < D) : ∀ i, 0 < gcdTo D sol i ∧ gcdTo D sol i ≤ D
  | 0 => ⟨hD, Int.le_refl D⟩
  | i + 1 => by
    have ih := gcdTo_bound (sol := sol) hD i
    simp only [gcdTo]
    have h1 : 0 < Int.gcd (gcdTo D sol i) (sol i) := Int.gcd_pos_of_ne_zero_left _ (by omega)
    have h2 : (Int.gcd (gcdTo D sol i) (sol i) : Int) ∣ gcdTo D sol i := Int.gcd_dvd_left _ _
    have h3 := Int.le_of_dvd ih.1 h2
    omega
def mendNums (D : Int) (sol : Nat → Int) (n : Nat) : List Int := (List.range n).map fun i => (sol i).tdiv (gcdTo D sol n)
def mendDen (D : Int) (sol : Nat → Int) (n : Nat) : Int := D.tdiv (gcdTo D sol n)
theorem mendNums_len (D : Int) (sol : Nat → Int) (n : Nat) : (mendNums D sol n).length = n := by simp [mendNums]
theorem tdiv_in {x g B : Int} (hg : 0 < g) (hx : -B ≤ x ∧ x ≤ B) (hB : 0 ≤ B) : -B ≤ x.tdiv g ∧ x.tdiv g ≤ B := by
  have h : (x.tdiv g).natAbs ≤ x.natAbs := by rw [Int.natAbs_tdiv]; exact Nat.div_le_self _ _
  omega
theorem c_mendG (xs : List Int) (lo : Int) (n : Nat) (ph : Nat → Nat → List Int) (pv sol : Nat → Int) (hs : signalErr xs = 0) (hn : 1 ≤ n ∧ n ≤ 8) (h0 : 0 ≤ lo) (h1 : lo + n ≤ xs.length) (hB : BarOk n ph pv sol)
    (hph : ∀ r, r < n → eqRow xs lo (lo + n - 1) (lo + (r : Nat)) = ph 0 r) :
    Pure Try.prog 77 [isl xs, .ag [iv lo, iv (lo + n - 1)]] (.ag [iv lo, iv (mendDen (pv n) sol n), isl (mendNums (pv n) sol n)]) := by
  obtain ⟨hN, hx⟩ := signalErr_zero hs
  have hl : Len xs.length := by unfold Len; omega
  refine p_intro evOk [4, 5, 25, 26, 27, 30] Try.func77 rfl Try.call77 ?_
  have n0 : ((0 : Nat) : Int) = 0 := rfl
  repeat' first
   | refine v_seq ?_ | refine v_block ?_ | refine v_ret ?_ | refine v_skip ?_ | (refine v_exit ?_; repeat' first | refine xB_eq ?_ | refine xB_ne rfl ?_)
   | ((first | refine rgA fun K hK => ?_ | refine rgB rfl fun K hK => ?_ | refine rgC rfl fun K hK => ?_); simp only [go_sem,simprocAttr,n0,hset_hset,hset_at])
   | (simp (disch := first | omega | rfl | (simp only [lnn]; omega)) only [spl])
   | (refine hK _ ?_; clear hK K)
   | (refine gdB_intro (fun h => ?_) (fun h => ?_) <;> simp only [go_sem,simprocAttr,h,n0,hset_hset,hset_at] <;> (have h' := h; try simp only [bl] at h'))
   | (refine v_cond rfl (fun h => ?_) (fun h => ?_) <;> first | (exact Bool.noConfusion h) | (have h' := h; try simp only [bl] at h'))
   | (refine r_ret ?_; simp only [resL, resA, Try.f77, lk_cons', lk_nil', Nat.reduceBEq]; first | exact ⟨rfl, Sb.nil _, rfl⟩ | refine ⟨rfl, sbt ?_, rfl⟩ | refine ⟨rfl, Sb.of_eq ?_, rfl⟩)
   | (refine And.intro (by first | exact True.intro | omega | rfl | exact Nat.le_of_ble_eq_true rfl | (simp only [lnn]; omega) | exact List.forall_mem_nil _ | (refine List.forall_mem_cons.2 ⟨⟨_, rfl⟩, ?_⟩; repeat' first | exact List.forall_mem_nil _ | refine List.forall_mem_cons.2 ⟨⟨_, rfl⟩, ?_⟩)) ?_)
   | fail
  let E : Nat → List Int := fun i => eqRow xs lo (lo + n - 1) (lo + (i : Nat))
  have hE : ∀ t, updP E t (eqRow xs lo (lo + n - 1) (lo + (t : Nat))) = E := fun t => by
    funext i
    unfold updP
    by_cases h : i = t
    · rw [if_pos h, h]
    · rw [if_neg h]
  have hEl : ∀ t, (eqRow xs lo (lo + n - 1) (lo + (t : Nat))).length = n + 1 := fun t => by rw [eqRow_length]; omega
  refine v_loop (T := Nat) (fun t => ⟨[(5, .ls 1 0 1 t), (0, isl xs), (3, .pt [iv lo, iv (lo + n - 1)] 0), (4, .lp 0 0), (6, iv (lo + (t : Nat)))], ror R86 1 2 t E, 2 + t, (64, 0, 0)⟩) (fun t => t ≤ n) (fun t => n - t) 0 (by omega) (by
    rw [ror_zero, show lo + ((0 : Nat) : Int) = lo by omega]
    (refine ent_eq ?_ rfl rfl rfl; repeat' first | exact trivial | refine ⟨?_, ?_⟩ | rfl)) ?_
  intro t ht
  by_cases htn : t < n
  · have hd : decide (lo + (t : Int) ≤ lo + n - 1) = true := decide_eq_true (by omega)
    have hN1 : (lo + (n : Int) - 1 - lo + 2).toNat = n + 1 := by omega
    have g1 := ror_P R86 1 2 t E
    have e1 : (2 + t == 1) = false := beq_ne (by omega)
    have e2 : (2 + t + 1 == 1) = false := beq_ne (by omega)
    have g4 := rorC_length 2 t E
    have g5 : List.take t (rorC 2 t E) = rorC 2 t E := List.take_of_length_le (Nat.le_of_eq g4)
    have g6 := rorC_one 2 t E
    repeat' first
     | refine v_seq ?_ | refine v_block ?_ | refine v_ret ?_ | refine v_skip ?_ | (refine v_exit ?_; repeat' first | refine xB_eq ?_ | refine xB_ne rfl ?_)
     | ((first | refine rgA fun K hK => ?_ | refine rgB rfl fun K hK => ?_ | refine rgC rfl fun K hK => ?_); simp only [go_sem,simprocAttr,n0,hd,hN1,e1,e2,g1,g4,g5,g6])
     | (simp (disch := first | omega | rfl | (simp only [lnn]; omega)) only [spl])
     | (refine hK _ ?_; clear hK K)
     | (refine gdB_intro (fun h => ?_) (fun h => ?_) <;> simp only [go_sem,simprocAttr,h,n0,hd,hN1,e1,e2,g1,g4,g5,g6] <;> (have h' := h; try simp only [bl] at h'))
     | (refine v_cond rfl (fun h => ?_) (fun h => ?_) <;> first | (exact Bool.noConfusion h) | (have h' := h; try simp only [bl] at h'))
     | (refine r_ret ?_; simp only [resL, resA, Try.f77, lk_cons', lk_nil', Nat.reduceBEq]; first | exact ⟨rfl, Sb.nil _, rfl⟩ | refine ⟨rfl, sbt ?_, rfl⟩ | refine ⟨rfl, Sb.of_eq ?_, rfl⟩)
     | (refine And.intro (by first | exact True.intro | omega | rfl | exact Nat.le_of_ble_eq_true rfl | (simp only [lnn]; omega) | exact List.forall_mem_nil _ | (refine List.forall_mem_cons.2 ⟨⟨_, rfl⟩, ?_⟩; repeat' first | exact List.forall_mem_nil _ | refine List.forall_mem_cons.2 ⟨⟨_, rfl⟩, ?_⟩)) ?_)
     | (refine call_fresh (f_equation xs lo (lo + n - 1) (lo + (t : Nat)) hl hx (by omega) (by omega)) (SbL.refl _) rfl ?_; simp only [cmK, go_sem,simprocAttr,hN1,e1,e2,g1,g4,g5,g6])
     | (simp only [g5, g6])
     | fail
    refine ⟨t + 1, ?_, by omega, by omega⟩
    rw [show lo + ((t + 1 : Nat) : Int) = lo + t + 1 by omega]
    refine (ent_ror_snoc (R := R86) (P := 1) (b := 2) (m := t) (s := 5) (ph := E) (l := eqRow xs lo (lo + n - 1) (lo + (t : Nat))) (fr := [(0, isl xs), (3, .pt [iv lo, iv (lo + n - 1)] 0), (4, .lp 0 0), (6, iv (lo + t + 1))]) (n := (64, 0, 0)) (by decide) (R86_low 2 (by decide)) rfl rfl rfl rfl (by (repeat' first | exact trivial | refine ⟨?_, ?_⟩ | rfl))
      (by simp [low2F, low2, isl, iv, AV.plain, ints_plain, plainL, Nat.blt]; rfl) (by rw [hEl]; exact hset_at _ _ _)
      (by simp only [hset', beq_ne (show 2 + t + 1 + 1 ≠ 2 + t by omega), beq_ne (show 1 ≠ 2 + t by omega), beq_ne (show 2 + t + 1 ≠ 2 + t by omega), beq_self_eq_true])
      (fun j hj => by
        simp only [hset', beq_ne (show 2 + t + 1 + 1 ≠ 2 + j by omega), beq_ne (show 1 ≠ 2 + j by omega), beq_ne (show 2 + t + 1 ≠ 2 + j by omega), beq_ne (show 2 + t ≠ 2 + j by omega)]
        exact ror_row (by decide) hj)
      (fun k c hk => by
        have hk0 := R86_some hk
        subst hk0
        simp only [hset', beq_ne (show 2 + t + 1 + 1 ≠ 0 by omega), beq_ne (show 1 ≠ 0 by omega), beq_ne (show 2 + t + 1 ≠ 0 by omega), beq_ne (show 2 + t ≠ 0 by omega)]
        unfold ror
        rw [if_neg (by omega), if_neg (by omega)]
        exact hk)).trans (Ent.of_eq ?_)
    rw [hE]
    rfl
  · obtain rfl : t = n := by omega
    have hd : decide (lo + (t : Int) ≤ lo + t - 1) = false := decide_eq_false (by omega)
    have e0 : ror R86 1 2 t E = ror R86 1 2 t (ph 0) := ror_congr fun j hj => hph j hj
    rw [e0]
    repeat' first
     | refine v_seq ?_ | refine v_block ?_ | refine v_ret ?_ | refine v_skip ?_ | (refine v_exit ?_; repeat' first | refine xB_eq ?_ | refine xB_ne rfl ?_)
     | ((first | refine rgA fun K hK => ?_ | refine rgB rfl fun K hK => ?_ | refine rgC rfl fun K hK => ?_); simp only [go_sem,simprocAttr,n0,hd])
     | (simp (disch := first | omega | rfl | (simp only [lnn]; omega)) only [spl])
     | (refine hK _ ?_; clear hK K)
     | (refine gdB_intro (fun h => ?_) (fun h => ?_) <;> simp only [go_sem,simprocAttr,h,n0,hd] <;> (have h' := h; try simp only [bl] at h'))
     | (refine v_cond rfl (fun h => ?_) (fun h => ?_) <;> first | (exact Bool.noConfusion h) | (have h' := h; try simp only [bl] at h'))
     | (refine r_ret ?_; simp only [resL, resA, Try.f77, lk_cons', lk_nil', Nat.reduceBEq]; first | exact ⟨rfl, Sb.nil _, rfl⟩ | refine ⟨rfl, sbt ?_, rfl⟩ | refine ⟨rfl, Sb.of_eq ?_, rfl⟩)
     | (refine And.intro (by first | exact True.intro | omega | rfl | exact Nat.le_of_ble_eq_true rfl | (simp only [lnn]; omega) | exact List.forall_mem_nil _ | (refine List.forall_mem_cons.2 ⟨⟨_, rfl⟩, ?_⟩; repeat' first | exact List.forall_mem_nil _ | refine List.forall_mem_cons.2 ⟨⟨_, rfl⟩, ?_⟩)) ?_)
     | (refine m_solve R86 1 2 t (2 + t) ph pv sol _ hn hB (by decide) (Nat.le_refl _) ?_; simp only [cmK, go_sem,simprocAttr,n0])
     | fail
    obtain ⟨Q, hQ⟩ : ∃ Q, 2 + t = Q := ⟨_, rfl⟩
    have hD := hB.pvB t (Nat.le_refl t)
    have hG := gcdTo_bound (sol := sol) hD.1
    have hsl : ((List.range t).map sol).length = t := by simp
    have hsg : ∀ i, i < t → gi ((List.range t).map sol) (i : Nat) = sol i := fun i hi => by simp [gi, hi]
    have eQ0 : (Q == 0) = false := beq_ne (by omega)
    refine v_loop (T := Nat) (fun i => ⟨[(3, .pt [iv lo, iv (lo + t - 1)] 0), (4, .lp 0 0), (7, .ls Q 0 1 t), (8, iv (pv t)), (9, iv (gcdTo (pv t) sol i)), (34, .ls Q 0 1 t), (35, iv t), (36, iv i)], hls [(Q, ints ((List.range t).map sol)), (0, [iv 0, iv 0, .v (.slice none 0 0)])], Q + 1, (64, 0, 0)⟩) (fun i => i ≤ t) (fun i => t - i) 0 (by omega) (by
      subst hQ
      refine ent_rows _ (by (repeat' first | exact trivial | refine ⟨?_, ?_⟩ | rfl)) rfl ⟨⟨hset_at _ _ _, by (first | omega | (dsimp only; omega))⟩, ⟨?_, by (first | omega | (dsimp only; omega))⟩, trivial⟩ (Nat.le_refl _)
      simp only [hset', eQ0]
      unfold ror
      rw [if_neg (by omega), if_neg (by omega)]
      rfl) ?_
    intro i hi
    by_cases hit : i < t
    · have hd2 : decide ((i : Int) < t) = true := decide_eq_true (by omega)
      have hGi := hG i
      have hsb := hB.solB i hit
      have hsi := hsg i hit
      repeat' first
       | refine v_seq ?_ | refine v_block ?_ | refine v_ret ?_ | refine v_skip ?_ | (refine v_exit ?_; repeat' first | refine xB_eq ?_ | refine xB_ne rfl ?_)
       | ((first | refine rgA fun K hK => ?_ | refine rgB rfl fun K hK => ?_ | refine rgC rfl fun K hK => ?_); simp only [go_sem,simprocAttr,n0,hd2,hls,hset_hset,hset_at,hsi,hsl])
       | (simp (disch := first | omega | rfl | (simp only [lnn]; omega)) only [spl])
       | (refine hK _ ?_; clear hK K)
       | (refine gdB_intro (fun h => ?_) (fun h => ?_) <;> simp only [go_sem,simprocAttr,h,n0,hd2,hls,hset_hset,hset_at,hsi,hsl] <;> (have h' := h; try simp only [bl] at h'))
       | (refine v_cond rfl (fun h => ?_) (fun h => ?_) <;> first | (exact Bool.noConfusion h) | (have h' := h; try simp only [bl] at h'))
       | (refine r_ret ?_; simp only [resL, resA, Try.f77, lk_cons', lk_nil', Nat.reduceBEq]; first | exact ⟨rfl, Sb.nil _, rfl⟩ | refine ⟨rfl, sbt ?_, rfl⟩ | refine ⟨rfl, Sb.of_eq ?_, rfl⟩)
       | (refine And.intro (by first | exact True.intro | omega | rfl | exact Nat.le_of_ble_eq_true rfl | (simp only [lnn]; omega) | exact List.forall_mem_nil _ | (refine List.forall_mem_cons.2 ⟨⟨_, rfl⟩, ?_⟩; repeat' first | exact List.forall_mem_nil _ | refine List.forall_mem_cons.2 ⟨⟨_, rfl⟩, ?_⟩)) ?_)
       | ((first | refine call_pure' (c_divisor _ _ ⟨by omega, by omega⟩ ⟨by omega, by omega⟩) rfl ?_); simp only [go_sem,simprocAttr,n0,hd2,hls,hset_hset,hset_at,hsi,hsl])
       | (simp only [go_sem,simprocAttr,hsi])
       | fail
      exact ⟨i + 1, by (refine ent_eq ?_ rfl rfl rfl; repeat' first | exact trivial | refine ⟨?_, ?_⟩ | rfl), by omega, by omega⟩
    · obtain rfl : i = t := by omega
      have hd2 : decide ((i : Int) < i) = false := decide_eq_false (by omega)
      repeat' first
       | refine v_seq ?_ | refine v_block ?_ | refine v_ret ?_ | refine v_skip ?_ | (refine v_exit ?_; repeat' first | refine xB_eq ?_ | refine xB_ne rfl ?_)
       | ((first | refine rgA fun K hK => ?_ | refine rgB rfl fun K hK => ?_ | refine rgC rfl fun K hK => ?_); simp only [go_sem,simprocAttr,n0,hd2,hls,hset_hset,hset_at])
       | (simp (disch := first | omega | rfl | (simp only [lnn]; omega)) only [spl])
       | (refine hK _ ?_; clear hK K)
       | (refine gdB_intro (fun h => ?_) (fun h => ?_) <;> simp only [go_sem,simprocAttr,h,n0,hd2,hls,hset_hset,hset_at] <;> (have h' := h; try simp only [bl] at h'))
       | (refine v_cond rfl (fun h => ?_) (fun h => ?_) <;> first | (exact Bool.noConfusion h) | (have h' := h; try simp only [bl] at h'))
       | (refine r_ret ?_; simp only [resL, resA, Try.f77, lk_cons', lk_nil', Nat.reduceBEq]; first | exact ⟨rfl, Sb.nil _, rfl⟩ | refine ⟨rfl, sbt ?_, rfl⟩ | refine ⟨rfl, Sb.of_eq ?_, rfl⟩)
       | (refine And.intro (by first | exact True.intro | omega | rfl | exact Nat.le_of_ble_eq_true rfl | (simp only [lnn]; omega) | exact List.forall_mem_nil _ | (refine List.forall_mem_cons.2 ⟨⟨_, rfl⟩, ?_⟩; repeat' first | exact List.forall_mem_nil _ | refine List.forall_mem_cons.2 ⟨⟨_, rfl⟩, ?_⟩)) ?_)
       | fail
      have hml := mendNums_len (pv i) sol i
      have hll : (mendNums (pv i) sol i).length = ((List.range i).map sol).length := by rw [hml, hsl]
      refine v_loop (T := Nat) (fun k => ⟨[(3, .pt [iv lo, iv (lo + i - 1)] 0), (4, .lp 0 0), (7, .ls Q 0 1 i), (8, iv (pv i)), (9, iv (gcdTo (pv i) sol i)), (44, .ls Q 0 1 i), (45, iv i), (46, iv k)], hls [(Q, ints (mixC (mendNums (pv i) sol i) ((List.range i).map sol) k)), (0, [iv 0, iv 0, .v (.slice none 0 0)])], Q + 1, (64, 0, 0)⟩) (fun k => k ≤ i) (fun k => i - k) 0 (by omega) (by
        rw [mixC_none hll (Nat.zero_le _) (fun _ h => absurd h (by omega))]
        (refine ent_eq ?_ rfl rfl rfl; repeat' first | exact trivial | refine ⟨?_, ?_⟩ | rfl)) ?_
      intro k hk
      have hGi := hG i
      have hmxl := mixC_len hll k
      rw [hsl] at hmxl
      by_cases hki : k < i
      · have hd3 : decide ((k : Int) < i) = true := decide_eq_true (by omega)
        have hsb := hB.solB k hki
        have hgm : gi (mixC (mendNums (pv i) sol i) ((List.range i).map sol) k) (k : Nat) = sol k := by rw [gi_mixC hll (by rw [hsl]; exact hki), hsg k hki]
        have htd := tdiv_in hGi.1 hsb (by omega)
        repeat' first
         | refine v_seq ?_ | refine v_block ?_ | refine v_ret ?_ | refine v_skip ?_ | (refine v_exit ?_; repeat' first | refine xB_eq ?_ | refine xB_ne rfl ?_)
         | ((first | refine rgA fun K hK => ?_ | refine rgB rfl fun K hK => ?_ | refine rgC rfl fun K hK => ?_); simp only [go_sem,simprocAttr,n0,hd3,hls,hset_hset,hset_at,hmxl])
         | (simp (disch := first | omega | rfl | (simp only [lnn]; omega)) only [spl])
         | (refine hK _ ?_; clear hK K)
         | (refine gdB_intro (fun h => ?_) (fun h => ?_) <;> simp only [go_sem,simprocAttr,h,n0,hd3,hls,hset_hset,hset_at,hmxl] <;> (have h' := h; try simp only [bl] at h'))
         | (refine v_cond rfl (fun h => ?_) (fun h => ?_) <;> first | (exact Bool.noConfusion h) | (have h' := h; try simp only [bl] at h'))
         | (refine r_ret ?_; simp only [resL, resA, Try.f77, lk_cons', lk_nil', Nat.reduceBEq]; first | exact ⟨rfl, Sb.nil _, rfl⟩ | refine ⟨rfl, sbt ?_, rfl⟩ | refine ⟨rfl, Sb.of_eq ?_, rfl⟩)
         | (refine And.intro (by first | exact True.intro | omega | rfl | exact Nat.le_of_ble_eq_true rfl | (simp only [lnn]; omega) | exact List.forall_mem_nil _ | (refine List.forall_mem_cons.2 ⟨⟨_, rfl⟩, ?_⟩; repeat' first | exact List.forall_mem_nil _ | refine List.forall_mem_cons.2 ⟨⟨_, rfl⟩, ?_⟩)) ?_)
         | (simp only [go_sem,simprocAttr,hgm])
         | fail
        refine ⟨k + 1, ?_, by omega, by omega⟩
        have hset2 : (mixC (mendNums (pv i) sol i) ((List.range i).map sol) k).set ((k : Nat) : Int).toNat ((sol k).tdiv (gcdTo (pv i) sol i)) = mixC (mendNums (pv i) sol i) ((List.range i).map sol) (k + 1) :=
          mixC_set hll (by rw [hsl]; exact hki) (by simp [mendNums, gi, hki])
        rw [hset2]
        (refine ent_eq ?_ rfl rfl rfl; repeat' first | exact trivial | refine ⟨?_, ?_⟩ | rfl)
      · obtain rfl : k = i := by omega
        have hd3 : decide ((k : Int) < k) = false := decide_eq_false (by omega)
        have hall : mixC (mendNums (pv k) sol k) ((List.range k).map sol) k = mendNums (pv k) sol k := by
          have := mixC_all hll
          rw [hsl] at this
          exact this
        rw [hall]
        have htd := tdiv_in hGi.1 (show -2000 ≤ pv k ∧ pv k ≤ 2000 by omega) (by omega)
        refine vc_ent ((ent_freezeH Q (c := ints (mendNums (pv k) sol k)) (hset_at _ _ _) (ints_plain _)).trans (ent_rows (fr := [(3, .pt [iv lo, iv (lo + k - 1)] 0), (4, .lp 0 0), (7, isl (mendNums (pv k) sol k)), (8, iv (pv k)), (9, iv (gcdTo (pv k) sol k)), (45, iv k), (46, iv k)]) [(0, [iv 0, iv 0, .v (.slice none 0 0)])] ?_ rfl ?_ (Nat.le_refl _))) ?_
        · have htk : List.take (k * 1) (List.drop 0 (ints (mendNums (pv k) sol k))) = ints (mendNums (pv k) sol k) := List.take_of_length_le (by rw [List.drop_zero, ints_length, hml, Nat.mul_one]; exact Nat.le_refl _)
          have hle : 0 + k * 1 ≤ (ints (mendNums (pv k) sol k)).length := by rw [ints_length, hml]; omega
          simp only [fzF, AV.fz, eQ0, cond_false, isl, iv, beq_self_eq_true, cond_true, htk, if_pos hle, hml]
          (repeat' first | exact trivial | refine ⟨?_, ?_⟩ | rfl)
        · simp only [rowsOk, hfz', hset', hls, eQ0, beq_self_eq_true, Option.map_some, List.map_cons, List.map_nil, AV.fz, cond_true, cond_false, iv, isl]
          exact ⟨⟨trivial, by omega⟩, trivial⟩
        · repeat' first
           | refine v_seq ?_ | refine v_block ?_ | refine v_ret ?_ | refine v_skip ?_ | (refine v_exit ?_; repeat' first | refine xB_eq ?_ | refine xB_ne rfl ?_)
           | ((first | refine rgA fun K hK => ?_ | refine rgB rfl fun K hK => ?_ | refine rgC rfl fun K hK => ?_); simp only [go_sem,simprocAttr,n0,hd3,hls,hset_hset,hset_at])
           | (simp (disch := first | omega | rfl | (simp only [lnn]; omega)) only [spl])
           | (refine hK _ ?_; clear hK K)
           | (refine gdB_intro (fun h => ?_) (fun h => ?_) <;> simp only [go_sem,simprocAttr,h,n0,hd3,hls,hset_hset,hset_at] <;> (have h' := h; try simp only [bl] at h'))
           | (refine v_cond rfl (fun h => ?_) (fun h => ?_) <;> first | (exact Bool.noConfusion h) | (have h' := h; try simp only [bl] at h'))
           | (refine r_ret ?_; simp only [resL, resA, Try.f77, lk_cons', lk_nil', Nat.reduceBEq]; first | exact ⟨rfl, Sb.nil _, rfl⟩ | refine ⟨rfl, sbt ?_, rfl⟩ | refine ⟨rfl, Sb.of_eq ?_, rfl⟩)
           | (refine And.intro (by first | exact True.intro | omega | rfl | exact Nat.le_of_ble_eq_true rfl | (simp only [lnn]; omega) | exact List.forall_mem_nil _ | (refine List.forall_mem_cons.2 ⟨⟨_, rfl⟩, ?_⟩; repeat' first | exact List.forall_mem_nil _ | refine List.forall_mem_cons.2 ⟨⟨_, rfl⟩, ?_⟩)) ?_)
           | fail
          exact r_cell (t := 4) (ty := 86) (k := 0) (cs := [iv lo, iv (mendDen (pv k) sol k), isl (mendNums (pv k) sol k)]) rfl rfl rfl rfl rfl rfl rfl (by simp only [AV.plain, plainL, isl, iv, ints_plain, Bool.and_self])
end Go.Proofs.Ytbobgnkohnbonaa

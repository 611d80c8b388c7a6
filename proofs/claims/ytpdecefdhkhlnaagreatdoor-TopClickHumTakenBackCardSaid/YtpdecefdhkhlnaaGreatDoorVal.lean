/- Parts of the proof, put together by a program. -/
import Derived.Test.YtpdecefdhkhlnaaGreatDoorVac
import Derived.Test.YtpdecefdhkhlnaaGreatDoorVak
set_option maxRecDepth 100000
set_option maxHeartbeats 4000000
set_option linter.unusedSimpArgs false
set_option linter.unusedVariables false
set_option linter.unusedSectionVars false
namespace Go.Proofs.YtpdecefdhkhlnaaGreatDoor
open Go.Ab Go.RowKit
variable [Dr]
theorem c_Compare (n d m k : Int) (hd : 0 < d ∧ d ≤ 1000000000000000000) (hk : 0 < k ∧ k ≤ 1000000000000000000) (hn : -1000000000000000000 ≤ n ∧ n ≤ 1000000000000000000) (hm : -1000000000000000000 ≤ m ∧ m ≤ 1000000000000000000) :
    Pure Tryz.prog 10 [iv n, iv d, iv m, iv k] (iv (sgn (n * k - m * d))) := by
  refine p_intro evOk [] Tryz.func10 rfl Tryz.call10 ?_
  repeat' first
   | refine v_seq ?_ | refine v_block ?_ | refine v_ret ?_ | refine v_skip ?_ | (refine v_exit ?_; repeat' first | refine xB_eq ?_ | refine xB_ne rfl ?_)
   | ((first | refine rgA fun K hK => ?_ | refine rgB rfl fun K hK => ?_ | refine rgC rfl fun K hK => ?_); simp only [go_sem,simprocAttr])
   | (simp (disch := first | omega | rfl | (simp only [lnn]; omega)) only [spl])
   | (refine hK _ ?_; clear hK K)
   | (refine gdB_intro (fun h => ?_) (fun h => ?_) <;> simp only [go_sem,simprocAttr,h] <;> (have h' := h; try simp only [bl] at h'))
   | (refine v_cond rfl (fun h => ?_) (fun h => ?_) <;> first | (exact Bool.noConfusion h) | (have h' := h; try simp only [bl] at h'))
   | (refine r_ret ?_; simp only [resL, resA, Tryz.f10, lk_cons', lk_nil', Nat.reduceBEq]; first | exact ⟨rfl, Sb.nil _, rfl⟩ | refine ⟨rfl, sbt ?_, rfl⟩ | refine ⟨rfl, Sb.of_eq ?_, rfl⟩)
   | (refine And.intro (by first | exact True.intro | omega | rfl | exact Nat.le_of_ble_eq_true rfl | (simp only [lnn]; omega) | exact List.forall_mem_nil _ | (refine List.forall_mem_cons.2 ⟨⟨_, rfl⟩, ?_⟩; repeat' first | exact List.forall_mem_nil _ | refine List.forall_mem_cons.2 ⟨⟨_, rfl⟩, ?_⟩)) ?_)
   | fail
  refine v_loop (T := Int × Int × Int × Int) (fun x => ⟨[(0, iv x.1), (1, iv x.2.1), (2, iv x.2.2.1), (3, iv x.2.2.2)], emp, 0, (47, 0, 0)⟩)
    (fun x => (0 < x.2.1 ∧ x.2.1 ≤ 1000000000000000000) ∧ (0 < x.2.2.2 ∧ x.2.2.2 ≤ 1000000000000000000) ∧ (-1000000000000000000 ≤ x.1 ∧ x.1 ≤ 1000000000000000000) ∧ (-1000000000000000000 ≤ x.2.2.1 ∧ x.2.2.1 ≤ 1000000000000000000) ∧ sgn (x.1 * x.2.2.2 - x.2.2.1 * x.2.1) = sgn (n * k - m * d))
    (fun x => (x.2.1 + x.2.2.2).toNat) (n, d, m, k) ⟨hd, hk, hn, hm, rfl⟩ (by (refine ent_eq ?_ rfl rfl rfl; repeat' first | exact trivial | refine ⟨?_, ?_⟩ | rfl)) ?_
  rintro ⟨a, b, c, e⟩ ⟨h1, h2, h3, h4, h5⟩
  dsimp only at h1 h2 h3 h4 h5 ⊢
  have r1 := part_rest (n := a) h1.1
  have r2 := part_rest (n := c) h2.1
  rw [← h5]
  clear h5
  repeat' first
   | refine v_seq ?_ | refine v_block ?_ | refine v_ret ?_ | refine v_skip ?_ | (refine v_exit ?_; repeat' first | refine xB_eq ?_ | refine xB_ne rfl ?_)
   | ((first | refine rgA fun K hK => ?_ | refine rgB rfl fun K hK => ?_ | refine rgC rfl fun K hK => ?_); simp only [go_sem,simprocAttr])
   | (simp (disch := first | omega | rfl | (simp only [lnn]; omega)) only [spl])
   | (refine hK _ ?_; clear hK K)
   | (refine gdB_intro (fun h => ?_) (fun h => ?_) <;> simp only [go_sem,simprocAttr,h] <;> (have h' := h; try simp only [bl] at h'))
   | (refine v_cond rfl (fun h => ?_) (fun h => ?_) <;> first | (exact Bool.noConfusion h) | (have h' := h; try simp only [bl] at h'))
   | (refine r_ret ?_; simp only [resL, resA, Tryz.f10, lk_cons', lk_nil', Nat.reduceBEq]; first | exact ⟨rfl, Sb.nil _, rfl⟩ | refine ⟨rfl, sbt ?_, rfl⟩ | refine ⟨rfl, Sb.of_eq ?_, rfl⟩)
   | (refine And.intro (by first | exact True.intro | omega | rfl | exact Nat.le_of_ble_eq_true rfl | (simp only [lnn]; omega) | exact List.forall_mem_nil _ | (refine List.forall_mem_cons.2 ⟨⟨_, rfl⟩, ?_⟩; repeat' first | exact List.forall_mem_nil _ | refine List.forall_mem_cons.2 ⟨⟨_, rfl⟩, ?_⟩)) ?_)
   | ((first | refine call_pure' (c_Floor a b h1.1 ⟨by omega, by omega⟩) rfl ?_ | refine call_pure' (c_Floor c e h2.1 ⟨by omega, by omega⟩) rfl ?_); simp only [go_sem,simprocAttr])
   | fail
  all_goals first
    | (refine congrArg iv ?_; rw [sgn_neg (part_lt h1.1 h2.1 (by assumption))])
    | (refine congrArg iv ?_; rw [sgn_pos (part_gt h1.1 h2.1 (by assumption))])
    | skip
  all_goals
    have hq : a / b = c / e := by omega
    have hpe := part_eq hq
    generalize a - a / b * b = u at *
    generalize c - c / e * e = v at *
  all_goals first
    | (exfalso; omega)
    | (exfalso; simp_all; done)
    | (refine congrArg iv ?_
       rw [hpe]
       first
       | (rename_i x1 x2 x3 x4; rw [show u = 0 by omega, show v = 0 by omega, Int.zero_mul, Int.zero_mul]; rfl)
       | (have hm := Int.mul_pos (show 0 < v by omega) h1.1; rw [show u = 0 by omega, Int.zero_mul, sgn_neg (by omega)])
       | (have hm := Int.mul_pos (show 0 < u by omega) h2.1; rw [show v = 0 by omega, Int.zero_mul, sgn_pos (by omega)]))
    | exact ⟨(e, v, b, u), by (refine ent_eq ?_ rfl rfl rfl; repeat' first | exact trivial | refine ⟨?_, ?_⟩ | rfl), ⟨⟨by dsimp only; omega, by dsimp only; omega⟩, ⟨by dsimp only; omega, by dsimp only; omega⟩, ⟨by dsimp only; omega, by dsimp only; omega⟩, ⟨by dsimp only; omega, by dsimp only; omega⟩, by dsimp only; rw [hpe, Int.mul_comm e u, Int.mul_comm b v]⟩, by dsimp only; omega⟩
theorem c_spread (xs : List Int) (p : Int) (hx : areSamples xs = true) (hn : xs.length ≤ 200) (hp : 1 ≤ p ∧ p ≤ xs.length) : Pure Tryz.prog 38 [isl xs, iv p] (.tu [iv (spread xs p), iv (xs.length - p)]) := by
  refine p_intro evOk [] Tryz.func38 rfl Tryz.call38 ?_
  repeat' first
   | refine v_seq ?_ | refine v_block ?_ | refine v_ret ?_ | refine v_skip ?_ | (refine v_exit ?_; repeat' first | refine xB_eq ?_ | refine xB_ne rfl ?_)
   | ((first | refine rgA fun K hK => ?_ | refine rgB rfl fun K hK => ?_ | refine rgC rfl fun K hK => ?_); simp only [go_sem,simprocAttr])
   | (simp (disch := first | omega | rfl | (simp only [lnn]; omega)) only [spl])
   | (refine hK _ ?_; clear hK K)
   | (refine gdB_intro (fun h => ?_) (fun h => ?_) <;> simp only [go_sem,simprocAttr,h] <;> (have h' := h; try simp only [bl] at h'))
   | (refine v_cond rfl (fun h => ?_) (fun h => ?_) <;> first | (exact Bool.noConfusion h) | (have h' := h; try simp only [bl] at h'))
   | (refine r_ret ?_; simp only [resL, resA, Tryz.f38, lk_cons', lk_nil', Nat.reduceBEq]; first | exact ⟨rfl, Sb.nil _, rfl⟩ | refine ⟨rfl, sbt ?_, rfl⟩ | refine ⟨rfl, Sb.of_eq ?_, rfl⟩)
   | (refine And.intro (by first | exact True.intro | omega | rfl | exact Nat.le_of_ble_eq_true rfl | (simp only [lnn]; omega) | exact List.forall_mem_nil _ | (refine List.forall_mem_cons.2 ⟨⟨_, rfl⟩, ?_⟩; repeat' first | exact List.forall_mem_nil _ | refine List.forall_mem_cons.2 ⟨⟨_, rfl⟩, ?_⟩)) ?_)
   | fail
  refine v_loop (T := Nat) (fun i => ⟨[(0, isl xs), (1, iv p), (11, iv ((xs.length : Int) - p)), (12, iv i), (4, iv (sumTo (spreadAt xs p) i))], emp, 0, (37, 0, 0)⟩) (fun i => (i : Int) ≤ xs.length - p) (fun i => xs.length - i) 0 (by omega) (by (refine ent_eq ?_ rfl rfl rfl; repeat' first | exact trivial | refine ⟨?_, ?_⟩ | rfl)) ?_
  intro i hi
  have hS := spreadTo_bound hx p i
  have s1 := sample_gi hx i
  have s2 := sample_gi hx ((i : Int) + p)
  have hA := spreadAt_bound hx p i
  have hA' := hA
  unfold spreadAt at hA'
  repeat' first
   | refine v_seq ?_ | refine v_block ?_ | refine v_ret ?_ | refine v_skip ?_ | (refine v_exit ?_; repeat' first | refine xB_eq ?_ | refine xB_ne rfl ?_)
   | ((first | refine rgA fun K hK => ?_ | refine rgB rfl fun K hK => ?_ | refine rgC rfl fun K hK => ?_); simp only [go_sem,simprocAttr])
   | (simp (disch := first | omega | rfl | (simp only [lnn]; omega)) only [spl])
   | (refine hK _ ?_; clear hK K)
   | (refine gdB_intro (fun h => ?_) (fun h => ?_) <;> simp only [go_sem,simprocAttr,h] <;> (have h' := h; try simp only [bl] at h'))
   | (refine v_cond rfl (fun h => ?_) (fun h => ?_) <;> first | (exact Bool.noConfusion h) | (have h' := h; try simp only [bl] at h'))
   | (refine r_ret ?_; simp only [resL, resA, Tryz.f38, lk_cons', lk_nil', Nat.reduceBEq]; first | exact ⟨rfl, Sb.nil _, rfl⟩ | refine ⟨rfl, sbt ?_, rfl⟩ | refine ⟨rfl, Sb.of_eq ?_, rfl⟩)
   | (refine And.intro (by first | exact True.intro | omega | rfl | exact Nat.le_of_ble_eq_true rfl | (simp only [lnn]; omega) | exact List.forall_mem_nil _ | (refine List.forall_mem_cons.2 ⟨⟨_, rfl⟩, ?_⟩; repeat' first | exact List.forall_mem_nil _ | refine List.forall_mem_cons.2 ⟨⟨_, rfl⟩, ?_⟩)) ?_)
   | fail
  · exact ⟨i + 1, by (refine ent_eq ?_ rfl rfl rfl; repeat' first | exact trivial | refine ⟨?_, ?_⟩ | rfl), by omega, by omega⟩
  · have : ((xs.length : Int) - p).toNat = i := by omega
    unfold spread
    rw [this]
theorem c_PeriodOfOk (xs : List Int) (lo hi : Int) (hs : signalErr xs = 0) (h0 : perErr xs lo hi = 0) : Pure Tryz.prog 8 [isl xs, .ag [iv lo, iv hi]] (.tu [iv (perBest xs lo hi), iv 0]) := by
  obtain ⟨a1, a2, a3, a4⟩ := perErr_zero h0
  obtain ⟨hn, hx⟩ := signalErr_zero hs
  have hl : Len xs.length := by unfold Len; omega
  have he := c_err xs hl
  rw [hs] at he
  have h1 : within lo 1 64 = true := within_iff.2 (by omega)
  have h2 : within hi 1 64 = true := within_iff.2 (by omega)
  have h3 : decide (lo ≤ hi) = true := decide_eq_true a2
  have h4 : decide (hi < xs.length) = true := decide_eq_true a4
  have u : ∀ e, unlessE true e = 0 := fun e => rfl
  have f0 : firstE [0, 0, 0, 0] = 0 := rfl
  refine p_intro evOk [] Tryz.func8 rfl Tryz.call8 ?_
  repeat' first
   | refine v_seq ?_ | refine v_block ?_ | refine v_ret ?_ | refine v_skip ?_ | (refine v_exit ?_; repeat' first | refine xB_eq ?_ | refine xB_ne rfl ?_)
   | ((first | refine rgA fun K hK => ?_ | refine rgB rfl fun K hK => ?_ | refine rgC rfl fun K hK => ?_); simp only [go_sem,simprocAttr,h1,h2,h3,h4,u,f0,bne_self_eq_false])
   | (simp (disch := first | omega | rfl | (simp only [lnn]; omega)) only [spl])
   | (refine hK _ ?_; clear hK K)
   | (refine gdB_intro (fun h => ?_) (fun h => ?_) <;> simp only [go_sem,simprocAttr,h,h1,h2,h3,h4,u,f0,bne_self_eq_false] <;> (have h' := h; try simp only [bl] at h'))
   | (refine v_cond rfl (fun h => ?_) (fun h => ?_) <;> first | (exact Bool.noConfusion h) | (have h' := h; try simp only [bl] at h'))
   | (refine r_ret ?_; simp only [resL, resA, Tryz.f8, lk_cons', lk_nil', Nat.reduceBEq]; first | exact ⟨rfl, Sb.nil _, rfl⟩ | refine ⟨rfl, sbt ?_, rfl⟩ | refine ⟨rfl, Sb.of_eq ?_, rfl⟩)
   | (refine And.intro (by first | exact True.intro | omega | rfl | exact Nat.le_of_ble_eq_true rfl | (simp only [lnn]; omega) | exact List.forall_mem_nil _ | (refine List.forall_mem_cons.2 ⟨⟨_, rfl⟩, ?_⟩; repeat' first | exact List.forall_mem_nil _ | refine List.forall_mem_cons.2 ⟨⟨_, rfl⟩, ?_⟩)) ?_)
   | ((first | refine call_pure' (he) rfl ?_ | refine call_pure' (c_isPeriod _) rfl ?_ | refine call_pure' (c_unless _ _) rfl ?_ | refine call_pure' (c_first [_, _, _, _] (len_lit rfl)) rfl ?_ | refine call_pure' (c_spread xs lo hx hn ⟨by omega, by omega⟩) rfl ?_); simp only [go_sem,simprocAttr,h1,h2,h3,h4,u,f0,bne_self_eq_false])
   | fail
  refine v_loop (T := Nat) (fun t => ⟨[(0, isl xs), (3, .pt [iv lo, iv hi] 0), (7, iv (bestTo xs lo t)), (8, iv (spread xs (bestTo xs lo t))), (9, iv ((xs.length : Int) - bestTo xs lo t)), (10, iv (lo + 1 + t))], emp, 0, (75, 0, 0)⟩) (fun t => (t : Int) ≤ hi - lo) (fun t => (hi - lo).toNat - t) 0 (by omega) (by rw [show lo + 1 + ((0 : Nat) : Int) = lo + 1 by omega]; (refine ent_eq ?_ rfl rfl rfl; repeat' first | exact trivial | refine ⟨?_, ?_⟩ | rfl)) ?_
  intro t ht
  have hB := bestTo_in xs lo t
  by_cases hle : lo + 1 + (t : Int) ≤ hi
  · have hd : decide (lo + 1 + (t : Int) ≤ hi) = true := decide_eq_true hle
    have b1 := spread_bound hx hn (lo + 1 + t) (by omega)
    have b2 := spread_bound hx hn (bestTo xs lo t) (by omega)
    have m1 := mul_bound (f := spread xs (lo + 1 + t)) (x := (xs.length : Int) - bestTo xs lo t) (a := 1000000000000) (b := 200) (by omega) (by omega)
    have m2 := mul_bound (f := spread xs (bestTo xs lo t)) (x := (xs.length : Int) - (lo + 1 + t)) (a := 1000000000000) (b := 200) (by omega) (by omega)
    repeat' first
     | refine v_seq ?_ | refine v_block ?_ | refine v_ret ?_ | refine v_skip ?_ | (refine v_exit ?_; repeat' first | refine xB_eq ?_ | refine xB_ne rfl ?_)
     | ((first | refine rgA fun K hK => ?_ | refine rgB rfl fun K hK => ?_ | refine rgC rfl fun K hK => ?_); simp only [go_sem,simprocAttr,hd])
     | (simp (disch := first | omega | rfl | (simp only [lnn]; omega)) only [spl])
     | (refine hK _ ?_; clear hK K)
     | (refine gdB_intro (fun h => ?_) (fun h => ?_) <;> simp only [go_sem,simprocAttr,h,hd] <;> (have h' := h; try simp only [bl] at h'))
     | (refine v_cond rfl (fun h => ?_) (fun h => ?_) <;> first | (exact Bool.noConfusion h) | (have h' := h; try simp only [bl] at h'))
     | (refine r_ret ?_; simp only [resL, resA, Tryz.f8, lk_cons', lk_nil', Nat.reduceBEq]; first | exact ⟨rfl, Sb.nil _, rfl⟩ | refine ⟨rfl, sbt ?_, rfl⟩ | refine ⟨rfl, Sb.of_eq ?_, rfl⟩)
     | (refine And.intro (by first | exact True.intro | omega | rfl | exact Nat.le_of_ble_eq_true rfl | (simp only [lnn]; omega) | exact List.forall_mem_nil _ | (refine List.forall_mem_cons.2 ⟨⟨_, rfl⟩, ?_⟩; repeat' first | exact List.forall_mem_nil _ | refine List.forall_mem_cons.2 ⟨⟨_, rfl⟩, ?_⟩)) ?_)
     | ((first | refine call_pure' (c_spread xs (lo + 1 + t) hx hn ⟨by omega, by omega⟩) rfl ?_); simp only [go_sem,simprocAttr,hd])
     | fail
    all_goals
      have hb : bestTo xs lo (t + 1) = bif decide (spread xs (lo + 1 + t) * ((xs.length : Int) - bestTo xs lo t) < spread xs (bestTo xs lo t) * ((xs.length : Int) - (lo + 1 + t))) then lo + 1 + t else bestTo xs lo t := rfl
      rw [h] at hb
      first | rw [cond_true] at hb | rw [cond_false] at hb
      exact ⟨t + 1, by rw [hb, show lo + 1 + ((t + 1 : Nat) : Int) = lo + 1 + t + 1 by omega]; (refine ent_eq ?_ rfl rfl rfl; repeat' first | exact trivial | refine ⟨?_, ?_⟩ | rfl), by omega, by omega⟩
  · have hd : decide (lo + 1 + (t : Int) ≤ hi) = false := decide_eq_false hle
    repeat' first
     | refine v_seq ?_ | refine v_block ?_ | refine v_ret ?_ | refine v_skip ?_ | (refine v_exit ?_; repeat' first | refine xB_eq ?_ | refine xB_ne rfl ?_)
     | ((first | refine rgA fun K hK => ?_ | refine rgB rfl fun K hK => ?_ | refine rgC rfl fun K hK => ?_); simp only [go_sem,simprocAttr,hd])
     | (simp (disch := first | omega | rfl | (simp only [lnn]; omega)) only [spl])
     | (refine hK _ ?_; clear hK K)
     | (refine gdB_intro (fun h => ?_) (fun h => ?_) <;> simp only [go_sem,simprocAttr,h,hd] <;> (have h' := h; try simp only [bl] at h'))
     | (refine v_cond rfl (fun h => ?_) (fun h => ?_) <;> first | (exact Bool.noConfusion h) | (have h' := h; try simp only [bl] at h'))
     | (refine r_ret ?_; simp only [resL, resA, Tryz.f8, lk_cons', lk_nil', Nat.reduceBEq]; first | exact ⟨rfl, Sb.nil _, rfl⟩ | refine ⟨rfl, sbt ?_, rfl⟩ | refine ⟨rfl, Sb.of_eq ?_, rfl⟩)
     | (refine And.intro (by first | exact True.intro | omega | rfl | exact Nat.le_of_ble_eq_true rfl | (simp only [lnn]; omega) | exact List.forall_mem_nil _ | (refine List.forall_mem_cons.2 ⟨⟨_, rfl⟩, ?_⟩; repeat' first | exact List.forall_mem_nil _ | refine List.forall_mem_cons.2 ⟨⟨_, rfl⟩, ?_⟩)) ?_)
     | fail
    have : (hi - lo).toNat = t := by omega
    unfold perBest
    rw [this]
end Go.Proofs.YtpdecefdhkhlnaaGreatDoor
set_option maxRecDepth 100000
set_option maxHeartbeats 4000000
set_option linter.unusedSimpArgs false
set_option linter.unusedVariables false
set_option linter.unusedSectionVars false
namespace Go.Proofs.YtpdecefdhkhlnaaGreatDoor
open Go.Ab Go.RowKit
variable [Dr]
abbrev R0 : Hp := hls [(0, [iv 0, iv 0, .v (.slice none 0 0)])]
theorem R0_low (b : Nat) (h : 2 ≤ b) : LowH b 1 R0 := fun k c hk => by
  unfold R0 hls at hk
  rw [hset'] at hk
  cases e : (0 == k) with
  | true =>
    rw [e] at hk
    cases hk
    have : 0 = k := by simpa using e
    subst this
    exact ⟨by omega, by omega, rfl⟩
  | false => rw [e] at hk; cases hk
theorem low_none {b P : Nat} {R : Hp} (h : LowH b P R) {k : Nat} (hk : b ≤ k) : R k = none := by
  cases e : R k with
  | none => rfl
  | some c => have := h k c e; omega
def stH1 (xs : List Int) (m i : Nat) : St := ⟨[(0, isl xs), (1, iv m), (4, .lp 0 0), (7, .ls 1 0 1 m), (31, isl xs), (32, iv xs.length), (33, iv i)], ror R0 1 2 m (phz xs m i), 2 + m + i, (73, 0, 0)⟩
theorem phz_upd (xs : List Int) (m i : Nat) : phz xs m (i + 1) = updP (phz xs m i) (i % m) (phz xs m i (i % m) ++ [gi xs i]) := by
  funext j
  unfold updP
  by_cases h : j = i % m
  · subst h; rw [if_pos rfl, phz_succ_eq rfl]
  · rw [if_neg h, phz_succ_ne (Ne.symm h)]
theorem c_HumOfOk (xs : List Int) (p : Int) (hs : signalErr xs = 0) (h0 : hpErr xs p = 0) : Pure Tryz.prog 12 [isl xs, iv p] (.tu [.ag [iv p, iv 0, isl (humTab xs p)], iv 0]) := by
  obtain ⟨a1, a2, a3⟩ := hpErr_zero h0
  obtain ⟨hn, hx⟩ := signalErr_zero hs
  have hl : Len xs.length := by unfold Len; omega
  have he := c_err xs hl
  rw [hs] at he
  have h1 : within p 1 64 = true := within_iff.2 (by omega)
  have h3 : decide (p ≤ xs.length) = true := decide_eq_true a3
  have u : ∀ e, unlessE true e = 0 := fun e => rfl
  have f0 : firstE [0, 0, 0] = 0 := rfl
  obtain ⟨m, rfl⟩ : ∃ m : Nat, p = m := ⟨p.toNat, by omega⟩
  refine p_intro evOk [4, 10, 30, 50, 69] Tryz.func12 rfl Tryz.call12 ?_
  have n0 : ((0 : Nat) : Int) = 0 := rfl
  have tn : ((m : Nat) : Int).toNat = m := by omega
  repeat' first
   | refine v_seq ?_ | refine v_block ?_ | refine v_ret ?_ | refine v_skip ?_ | (refine v_exit ?_; repeat' first | refine xB_eq ?_ | refine xB_ne rfl ?_)
   | ((first | refine rgA fun K hK => ?_ | refine rgB rfl fun K hK => ?_ | refine rgC rfl fun K hK => ?_); simp only [go_sem,simprocAttr,n0,h1,h3,u,f0,tn,zrep_rep,bne_self_eq_false,hset_hset,hset_at])
   | (simp (disch := first | omega | rfl | (simp only [lnn]; omega)) only [spl])
   | (refine hK _ ?_; clear hK K)
   | (refine gdB_intro (fun h => ?_) (fun h => ?_) <;> simp only [go_sem,simprocAttr,h,n0,h1,h3,u,f0,tn,zrep_rep,bne_self_eq_false,hset_hset,hset_at] <;> (have h' := h; try simp only [bl] at h'))
   | (refine v_cond rfl (fun h => ?_) (fun h => ?_) <;> first | (exact Bool.noConfusion h) | (have h' := h; try simp only [bl] at h'))
   | (refine r_ret ?_; simp only [resL, resA, Tryz.f12, lk_cons', lk_nil', Nat.reduceBEq]; first | exact ⟨rfl, Sb.nil _, rfl⟩ | refine ⟨rfl, sbt ?_, rfl⟩ | refine ⟨rfl, Sb.of_eq ?_, rfl⟩)
   | (refine And.intro (by first | exact True.intro | omega | rfl | exact Nat.le_of_ble_eq_true rfl | (simp only [lnn]; omega) | exact List.forall_mem_nil _ | (refine List.forall_mem_cons.2 ⟨⟨_, rfl⟩, ?_⟩; repeat' first | exact List.forall_mem_nil _ | refine List.forall_mem_cons.2 ⟨⟨_, rfl⟩, ?_⟩)) ?_)
   | ((first | refine call_pure' (he) rfl ?_ | refine call_pure' (c_isPeriod _) rfl ?_ | refine call_pure' (c_unless _ _) rfl ?_ | refine call_pure' (c_first [_, _, _] (len_lit rfl)) rfl ?_); simp only [go_sem,simprocAttr,n0,h1,h3,u,f0,tn,zrep_rep,bne_self_eq_false,hset_hset,hset_at])
   | fail
  refine v_loop (T := Nat) (stH1 xs m) (fun i => i ≤ xs.length) (fun i => xs.length - i) 0 (by omega) (by
    refine Ent.trans (σ' := ⟨(stH1 xs m 0).fr, fun k => if k = 1 then some (List.replicate m (.v (.slice none 0 0))) else R0 k, 2, (73, 0, 0)⟩) (ent_eq_hp (by unfold stH1; (repeat' first | exact trivial | refine ⟨?_, ?_⟩ | rfl)) rfl (fun k c hk => ?_) (Nat.le_refl _) (fun k hk => ?_)) ?_
    · dsimp only at hk ⊢
      rw [hset']
      by_cases e : 1 = k
      · subst e; rw [if_pos rfl] at hk; exact hk
      · rw [beq_ne e]; rw [if_neg (Ne.symm e)] at hk; exact hk
    · have hk' : 2 ≤ k := hk
      dsimp only
      rw [if_neg (by omega)]
      exact low_none (R0_low 2 (by decide)) hk'
    · have := ent_ror_nil (σ := ⟨(stH1 xs m 0).fr, fun k => if k = 1 then some (List.replicate m (.v (.slice none 0 0))) else R0 k, 2, (73, 0, 0)⟩) (P := 1) (m := m) (R := R0) (Nat.lt_succ_self 1) (fun k hk => low_none (R0_low 2 (by decide)) hk) rfl
      exact this) ?_
  intro i hi
  unfold stH1
  have hjm : i % m < m := Nat.mod_lt _ (by omega)
  have ht : Int.tmod (i : Int) m = ((i % m : Nat) : Int) := (Int.ofNat_tmod i m).symm
  have tj : ((i % m : Nat) : Int).toNat = i % m := by omega
  have g1 := ror_P R0 1 2 m (phz xs m i)
  have g2 := rorC_get (b := 2) (ph := phz xs m i) hjm
  have g3 := ror_row (R := R0) (P := 1) (b := 2) (ph := phz xs m i) (by decide) hjm
  have g4 := rorC_length 2 m (phz xs m i)
  have e1 : (2 + m + i == 1) = false := beq_ne (by omega)
  have e2 : (2 + i % m == 1) = false := beq_ne (by omega)
  by_cases hlt : i < xs.length
  · have hd : decide ((i : Int) < xs.length) = true := decide_eq_true (by omega)
    have hpl := phz_len xs m i (i % m)
    repeat' first
     | refine v_seq ?_ | refine v_block ?_ | refine v_ret ?_ | refine v_skip ?_ | (refine v_exit ?_; repeat' first | refine xB_eq ?_ | refine xB_ne rfl ?_)
     | ((first | refine rgA fun K hK => ?_ | refine rgB rfl fun K hK => ?_ | refine rgC rfl fun K hK => ?_); simp only [go_sem,simprocAttr,n0,ht,tj,g1,g4,e1,hd])
     | (simp (disch := first | omega | rfl | (simp only [lnn]; omega)) only [spl])
     | (refine hK _ ?_; clear hK K)
     | (refine gdB_intro (fun h => ?_) (fun h => ?_) <;> simp only [go_sem,simprocAttr,h,n0,ht,tj,g1,g4,e1,hd] <;> (have h' := h; try simp only [bl] at h'))
     | (refine v_cond rfl (fun h => ?_) (fun h => ?_) <;> first | (exact Bool.noConfusion h) | (have h' := h; try simp only [bl] at h'))
     | (refine r_ret ?_; simp only [resL, resA, Tryz.f12, lk_cons', lk_nil', Nat.reduceBEq]; first | exact ⟨rfl, Sb.nil _, rfl⟩ | refine ⟨rfl, sbt ?_, rfl⟩ | refine ⟨rfl, Sb.of_eq ?_, rfl⟩)
     | (refine And.intro (by first | exact True.intro | omega | rfl | exact Nat.le_of_ble_eq_true rfl | (simp only [lnn]; omega) | exact List.forall_mem_nil _ | (refine List.forall_mem_cons.2 ⟨⟨_, rfl⟩, ?_⟩; repeat' first | exact List.forall_mem_nil _ | refine List.forall_mem_cons.2 ⟨⟨_, rfl⟩, ?_⟩)) ?_)
     | (simp only [go_sem,simprocAttr,g2,g3,g4,e1,e2])
     | fail
    refine ⟨i + 1, ?_, by omega, by omega⟩
    rw [phz_upd, show 2 + m + (i + 1) = 2 + m + i + 1 by omega]
    refine ent_ror_move (j := i % m) (l := phz xs m i (i % m) ++ [gi xs i]) (nx := 2 + m + i) (by decide) hjm (R0_low 2 (by decide)) (by omega) (Nat.zero_le _) (by (repeat' first | exact trivial | refine ⟨?_, ?_⟩ | rfl)) (by simp [belowF, AV.low, isl, iv, AV.plain, ints_plain, Nat.blt]) rfl rfl ?_
    dsimp only
    rw [splice_set1 _ (by rw [g4]; exact hjm), List.take_of_length_le (Nat.le_refl _), List.length_append]
    rfl
  · obtain rfl : i = xs.length := by omega
    refine vc_ent (ent_ror_freeze (by decide) (R0_low 2 (by decide)) (by simp [belowF, AV.low, isl, iv, AV.plain, ints_plain, Nat.blt])) ?_
    have hd : decide ((xs.length : Int) < xs.length) = false := decide_eq_false (by omega)
    have hC : ∀ k, k < m → ((List.range m).map fun j => isl (phz xs m xs.length j))[k]? = some (isl (phz xs m xs.length k)) := fun k hk => by simp [hk]
    clear g1 g2 g3 g4 e1 e2 ht tj hjm
    generalize ((List.range m).map fun j => isl (phz xs m xs.length j)) = C at *
    obtain ⟨N, hN, hN2⟩ : ∃ N, 2 + m + xs.length = N ∧ 2 ≤ N := ⟨_, rfl, by omega⟩
    rw [hN]
    have f2 : (N == 1) = false := beq_ne (by omega)
    have f0 : (N == 0) = false := beq_ne (by omega)
    repeat' first
     | refine v_seq ?_ | refine v_block ?_ | refine v_ret ?_ | refine v_skip ?_ | (refine v_exit ?_; repeat' first | refine xB_eq ?_ | refine xB_ne rfl ?_)
     | ((first | refine rgA fun K hK => ?_ | refine rgB rfl fun K hK => ?_ | refine rgC rfl fun K hK => ?_); simp only [go_sem,simprocAttr,n0,hd,f2,f0,hset_hset,hset_at])
     | (simp (disch := first | omega | rfl | (simp only [lnn]; omega)) only [spl])
     | (refine hK _ ?_; clear hK K)
     | (refine gdB_intro (fun h => ?_) (fun h => ?_) <;> simp only [go_sem,simprocAttr,h,n0,hd,f2,f0,hset_hset,hset_at] <;> (have h' := h; try simp only [bl] at h'))
     | (refine v_cond rfl (fun h => ?_) (fun h => ?_) <;> first | (exact Bool.noConfusion h) | (have h' := h; try simp only [bl] at h'))
     | (refine r_ret ?_; simp only [resL, resA, Tryz.f12, lk_cons', lk_nil', Nat.reduceBEq]; first | exact ⟨rfl, Sb.nil _, rfl⟩ | refine ⟨rfl, sbt ?_, rfl⟩ | refine ⟨rfl, Sb.of_eq ?_, rfl⟩)
     | (refine And.intro (by first | exact True.intro | omega | rfl | exact Nat.le_of_ble_eq_true rfl | (simp only [lnn]; omega) | exact List.forall_mem_nil _ | (refine List.forall_mem_cons.2 ⟨⟨_, rfl⟩, ?_⟩; repeat' first | exact List.forall_mem_nil _ | refine List.forall_mem_cons.2 ⟨⟨_, rfl⟩, ?_⟩)) ?_)
     | fail
    refine v_loop (T := Nat) (fun k => ⟨[(0, isl xs), (4, .lp 0 0), (10, .lp N 0), (55, .ls 1 0 1 m), (56, iv m), (57, iv k)], hls [(N + 1 + k, ints (humTabTo xs m k)), (N, [iv m, iv 0, .ls (N + 1 + k) 0 1 k]), (1, C), (0, [iv 0, iv 0, .v (.slice none 0 0)])], N + 2 + k, (73, 0, 0)⟩) (fun k => k ≤ m) (fun k => m - k) 0 (by omega) (by
      refine (ent_nil_cell N 2 1 (hset_at _ _ _) rfl).trans (ent_rows _ (by (repeat' first | exact trivial | refine ⟨?_, ?_⟩ | rfl)) rfl ?_ (Nat.le_refl _))
      have x1 : (N + 1 == N) = false := beq_ne (by omega)
      have x2 : (N + 1 == 1) = false := beq_ne (by omega)
      have x3 : (N + 1 == 0) = false := beq_ne (by omega)
      simp only [rowsOk, hset', hls, R0, f2, f0, x1, x2, x3, beq_self_eq_true]
      exact ⟨⟨rfl, by omega⟩, ⟨rfl, by omega⟩, ⟨trivial, by omega⟩, ⟨rfl, by omega⟩, trivial⟩) ?_
    intro k hk
    have x1 : (N + 1 + k == N) = false := beq_ne (by omega)
    have x2 : (N + 1 + k == 1) = false := beq_ne (by omega)
    have x4 : (N + 2 + k == N) = false := beq_ne (by omega)
    have hdl := humTabTo_length xs m k
    by_cases hlt : k < m
    · have hd : decide ((k : Int) < m) = true := decide_eq_true (by omega)
      have hpk := phz_pos (xs := xs) hlt xs.length (by omega)
      have hps := phz_samples hx m xs.length k
      have hpl := phz_len xs m xs.length k
      have hm1 := c_mean (phz xs m xs.length k) (by unfold Len; omega) hpk hps
      have hm2 := c_mean xs hl (by omega) hx
      have hb1 := meanI_bound hps hpk
      have hb2 := meanI_bound hx (by omega)
      have tk : ((k : Nat) : Int).toNat = k := by omega
      have hCk := hC k hlt
      repeat' first
       | refine v_seq ?_ | refine v_block ?_ | refine v_ret ?_ | refine v_skip ?_ | (refine v_exit ?_; repeat' first | refine xB_eq ?_ | refine xB_ne rfl ?_)
       | ((first | refine rgA fun K hK => ?_ | refine rgB rfl fun K hK => ?_ | refine rgC rfl fun K hK => ?_); simp only [go_sem,simprocAttr,n0,hd,tk,f2,x1,x2,x4,hls,hset_hset,hset_at,hdl])
       | (simp (disch := first | omega | rfl | (simp only [lnn]; omega)) only [spl])
       | (refine hK _ ?_; clear hK K)
       | (refine gdB_intro (fun h => ?_) (fun h => ?_) <;> simp only [go_sem,simprocAttr,h,n0,hd,tk,f2,x1,x2,x4,hls,hset_hset,hset_at,hdl] <;> (have h' := h; try simp only [bl] at h'))
       | (refine v_cond rfl (fun h => ?_) (fun h => ?_) <;> first | (exact Bool.noConfusion h) | (have h' := h; try simp only [bl] at h'))
       | (refine r_ret ?_; simp only [resL, resA, Tryz.f12, lk_cons', lk_nil', Nat.reduceBEq]; first | exact ⟨rfl, Sb.nil _, rfl⟩ | refine ⟨rfl, sbt ?_, rfl⟩ | refine ⟨rfl, Sb.of_eq ?_, rfl⟩)
       | (refine And.intro (by first | exact True.intro | omega | rfl | exact Nat.le_of_ble_eq_true rfl | (simp only [lnn]; omega) | exact List.forall_mem_nil _ | (refine List.forall_mem_cons.2 ⟨⟨_, rfl⟩, ?_⟩; repeat' first | exact List.forall_mem_nil _ | refine List.forall_mem_cons.2 ⟨⟨_, rfl⟩, ?_⟩)) ?_)
       | ((first | refine call_pure' (hm1) rfl ?_ | refine call_pure' (hm2) rfl ?_); simp only [go_sem,simprocAttr,n0,hd,tk,f2,x1,x2,x4,hls,hset_hset,hset_at,hdl])
       | (simp only [go_sem,simprocAttr,hCk,isl])
       | fail
      refine ⟨k + 1, ent_rows _ (by (repeat' first | exact trivial | refine ⟨?_, ?_⟩ | rfl)) rfl ?_ (by dsimp only; omega), by omega, by omega⟩
      rw [show N + 1 + (k + 1) = N + 2 + k by omega, ← humTabTo_succ]
      have y1 : (N == N + 2 + k) = false := beq_ne (by omega)
      have y2 : (N + 2 + k == 1) = false := beq_ne (by omega)
      have y3 : (N + 2 + k == 0) = false := beq_ne (by omega)
      have y4 : (N + 1 + k == 0) = false := beq_ne (by omega)
      simp only [rowsOk, hset', hls, f2, f0, x1, x2, x4, y1, y2, y3, y4, beq_self_eq_true, List.take_of_length_le (Nat.le_of_eq hdl)]
      exact ⟨⟨trivial, by omega⟩, ⟨rfl, by omega⟩, ⟨trivial, by omega⟩, ⟨rfl, by omega⟩, trivial⟩
    · have hkm : k = m := by omega
      subst hkm
      have y4 : (N + 1 + k == 0) = false := beq_ne (by omega)
      refine vc_ent ((ent_freezeH (N + 1 + k) (c := ints (humTabTo xs k k)) (hset_at _ _ _) (ints_plain _)).trans (ent_rows (fr := [(0, isl xs), (4, .lp 0 0), (10, .lp N 0), (56, iv k), (57, iv k)]) [(N, [iv k, iv 0, isl (humTabTo xs k k)]), (0, [iv 0, iv 0, .v (.slice none 0 0)])] ?_ rfl ?_ (Nat.le_refl _))) ?_
      · simp only [fzF, AV.fz, x1, y4, cond_false, isl, iv]
        (repeat' first | exact trivial | refine ⟨?_, ?_⟩ | rfl)
      · simp only [rowsOk, hfz', hset', hls, f2, f0, x1, x2, y4, beq_self_eq_true, Option.map_some, List.map_cons, List.map_nil, AV.fz, cond_true, cond_false, ints_length, hdl, iv, isl]
        refine ⟨⟨?_, by omega⟩, ⟨rfl, by omega⟩, trivial⟩
        simp [ints_length, hdl]
        exact List.take_of_length_le (by rw [ints_length, hdl]; exact Nat.le_refl _)
      · have hd : decide ((k : Int) < k) = false := decide_eq_false (by omega)
        repeat' first
         | refine v_seq ?_ | refine v_block ?_ | refine v_ret ?_ | refine v_skip ?_ | (refine v_exit ?_; repeat' first | refine xB_eq ?_ | refine xB_ne rfl ?_)
         | ((first | refine rgA fun K hK => ?_ | refine rgB rfl fun K hK => ?_ | refine rgC rfl fun K hK => ?_); simp only [go_sem,simprocAttr,n0,hd,f2,f0,hls,hset_hset,hset_at])
         | (simp (disch := first | omega | rfl | (simp only [lnn]; omega)) only [spl])
         | (refine hK _ ?_; clear hK K)
         | (refine gdB_intro (fun h => ?_) (fun h => ?_) <;> simp only [go_sem,simprocAttr,h,n0,hd,f2,f0,hls,hset_hset,hset_at] <;> (have h' := h; try simp only [bl] at h'))
         | (refine v_cond rfl (fun h => ?_) (fun h => ?_) <;> first | (exact Bool.noConfusion h) | (have h' := h; try simp only [bl] at h'))
         | (refine r_ret ?_; simp only [resL, resA, Tryz.f12, lk_cons', lk_nil', Nat.reduceBEq]; first | exact ⟨rfl, Sb.nil _, rfl⟩ | refine ⟨rfl, sbt ?_, rfl⟩ | refine ⟨rfl, Sb.of_eq ?_, rfl⟩)
         | (refine And.intro (by first | exact True.intro | omega | rfl | exact Nat.le_of_ble_eq_true rfl | (simp only [lnn]; omega) | exact List.forall_mem_nil _ | (refine List.forall_mem_cons.2 ⟨⟨_, rfl⟩, ?_⟩; repeat' first | exact List.forall_mem_nil _ | refine List.forall_mem_cons.2 ⟨⟨_, rfl⟩, ?_⟩)) ?_)
         | fail
        exact r_cell2 (t := 4) (s := 5) (k := 0) (cs := [iv k, iv 0, isl (humTabTo xs k k)]) rfl rfl rfl rfl (by dsimp only; rw [hset_at]; rfl) rfl rfl (by simp only [AV.plain, plainL, isl, iv, ints_plain, Bool.and_self]) rfl rfl
end Go.Proofs.YtpdecefdhkhlnaaGreatDoor
set_option maxRecDepth 100000
set_option maxHeartbeats 4000000
set_option linter.unusedSimpArgs false
set_option linter.unusedVariables false
set_option linter.unusedSectionVars false
namespace Go.Proofs.YtpdecefdhkhlnaaGreatDoor
open Go.Ab Go.RowKit Go.Shelf Go.Proofs
attribute [local instance] drV loV
theorem c_clickAwake : Pure Tryz.prog 5 [] (.v (.bool true)) := by
  have h2 : Pure Tryz.prog 30 [.ag (ruleA 0 1 5 2 4 50), isl Y0] (.tu [rsl [⟨2, 2, 2, 9⟩], iv 0]) := by
    have := c_Clicks 0 1 5 2 4 50 Y0 (len_lit rfl)
    rw [clicks_Y0] at this
    exact this
  refine p_intro evOk [] Tryz.func5 rfl Tryz.call5 ?_
  repeat' first
   | refine v_seq ?_ | refine v_block ?_ | refine v_ret ?_ | refine v_skip ?_ | (refine v_exit ?_; repeat' first | refine xB_eq ?_ | refine xB_ne rfl ?_)
   | ((first | refine rgA fun K hK => ?_ | refine rgB rfl fun K hK => ?_ | refine rgC rfl fun K hK => ?_); simp only [go_sem,simprocAttr])
   | (simp (disch := first | omega | rfl | (simp only [lnn]; omega)) only [spl])
   | (refine hK _ ?_; clear hK K)
   | (refine gdB_intro (fun h => ?_) (fun h => ?_) <;> simp only [go_sem,simprocAttr,h] <;> (have h' := h; try simp only [bl] at h'))
   | (refine v_cond rfl (fun h => ?_) (fun h => ?_) <;> first | (exact Bool.noConfusion h) | (have h' := h; try simp only [bl] at h'))
   | (refine r_ret ?_; simp only [resL, resA, Tryz.f5, lk_cons', lk_nil', Nat.reduceBEq]; first | exact ⟨rfl, Sb.nil _, rfl⟩ | refine ⟨rfl, sbt ?_, rfl⟩ | refine ⟨rfl, Sb.of_eq ?_, rfl⟩)
   | (refine And.intro (by first | exact True.intro | omega | rfl | exact Nat.le_of_ble_eq_true rfl | (simp only [lnn]; omega) | exact List.forall_mem_nil _ | (refine List.forall_mem_cons.2 ⟨⟨_, rfl⟩, ?_⟩; repeat' first | exact List.forall_mem_nil _ | refine List.forall_mem_cons.2 ⟨⟨_, rfl⟩, ?_⟩)) ?_)
   | ((first | refine call_pure' (c_Rules) rfl ?_ | refine call_pure' (h2) rfl ?_ | refine call_pure' (c_Exact0) rfl ?_ | refine call_pure' (c_SameMends0) rfl ?_); simp only [go_sem,simprocAttr])
   | fail
  all_goals first | rfl | exact absurd rfl h'
theorem c_clickSpread (xs : List Int) (p : Int) (hx : areSamples xs = true) (hn : xs.length ≤ 200) (hp : 1 ≤ p ∧ p ≤ xs.length) : Pure Tryz.prog 11 [isl xs, iv p] (iv (spread xs p)) := by
  refine p_intro evOk [] Tryz.func11 rfl Tryz.call11 ?_
  repeat' first
   | refine v_seq ?_ | refine v_block ?_ | refine v_ret ?_ | refine v_skip ?_ | (refine v_exit ?_; repeat' first | refine xB_eq ?_ | refine xB_ne rfl ?_)
   | ((first | refine rgA fun K hK => ?_ | refine rgB rfl fun K hK => ?_ | refine rgC rfl fun K hK => ?_); simp only [go_sem,simprocAttr])
   | (simp (disch := first | omega | rfl | (simp only [lnn]; omega)) only [spl])
   | (refine hK _ ?_; clear hK K)
   | (refine gdB_intro (fun h => ?_) (fun h => ?_) <;> simp only [go_sem,simprocAttr,h] <;> (have h' := h; try simp only [bl] at h'))
   | (refine v_cond rfl (fun h => ?_) (fun h => ?_) <;> first | (exact Bool.noConfusion h) | (have h' := h; try simp only [bl] at h'))
   | (refine r_ret ?_; simp only [resL, resA, Tryz.f11, lk_cons', lk_nil', Nat.reduceBEq]; first | exact ⟨rfl, Sb.nil _, rfl⟩ | refine ⟨rfl, sbt ?_, rfl⟩ | refine ⟨rfl, Sb.of_eq ?_, rfl⟩)
   | (refine And.intro (by first | exact True.intro | omega | rfl | exact Nat.le_of_ble_eq_true rfl | (simp only [lnn]; omega) | exact List.forall_mem_nil _ | (refine List.forall_mem_cons.2 ⟨⟨_, rfl⟩, ?_⟩; repeat' first | exact List.forall_mem_nil _ | refine List.forall_mem_cons.2 ⟨⟨_, rfl⟩, ?_⟩)) ?_)
   | fail
  refine v_loop (T := Nat) (fun i => ⟨[(0, isl xs), (1, iv p), (6, iv i), (5, iv (sumTo (spreadAt xs p) i))], emp, 0, (41, 0, 0)⟩) (fun i => (i : Int) ≤ xs.length - p) (fun i => xs.length - i) 0 (by omega) (by (refine ent_eq ?_ rfl rfl rfl; repeat' first | exact trivial | refine ⟨?_, ?_⟩ | rfl)) ?_
  intro i hi
  have hS := spreadTo_bound hx p i
  have s1 := sample_gi hx i
  have s2 := sample_gi hx ((i : Int) + p)
  have hA := spreadAt_bound hx p i
  have hA' := hA
  unfold spreadAt at hA'
  repeat' first
   | refine v_seq ?_ | refine v_block ?_ | refine v_ret ?_ | refine v_skip ?_ | (refine v_exit ?_; repeat' first | refine xB_eq ?_ | refine xB_ne rfl ?_)
   | ((first | refine rgA fun K hK => ?_ | refine rgB rfl fun K hK => ?_ | refine rgC rfl fun K hK => ?_); simp only [go_sem,simprocAttr])
   | (simp (disch := first | omega | rfl | (simp only [lnn]; omega)) only [spl])
   | (refine hK _ ?_; clear hK K)
   | (refine gdB_intro (fun h => ?_) (fun h => ?_) <;> simp only [go_sem,simprocAttr,h] <;> (have h' := h; try simp only [bl] at h'))
   | (refine v_cond rfl (fun h => ?_) (fun h => ?_) <;> first | (exact Bool.noConfusion h) | (have h' := h; try simp only [bl] at h'))
   | (refine r_ret ?_; simp only [resL, resA, Tryz.f11, lk_cons', lk_nil', Nat.reduceBEq]; first | exact ⟨rfl, Sb.nil _, rfl⟩ | refine ⟨rfl, sbt ?_, rfl⟩ | refine ⟨rfl, Sb.of_eq ?_, rfl⟩)
   | (refine And.intro (by first | exact True.intro | omega | rfl | exact Nat.le_of_ble_eq_true rfl | (simp only [lnn]; omega) | exact List.forall_mem_nil _ | (refine List.forall_mem_cons.2 ⟨⟨_, rfl⟩, ?_⟩; repeat' first | exact List.forall_mem_nil _ | refine List.forall_mem_cons.2 ⟨⟨_, rfl⟩, ?_⟩)) ?_)
   | fail
  · exact ⟨i + 1, by (refine ent_eq ?_ rfl rfl rfl; repeat' first | exact trivial | refine ⟨?_, ?_⟩ | rfl), by omega, by omega⟩
  · have : ((xs.length : Int) - p).toNat = i := by omega
    unfold spread
    rw [this]
theorem perBest_le {xs : List Int} {lo hi : Int} (h : lo ≤ hi) : spread xs (perBest xs lo hi) * ((xs.length : Int) - hi) ≤ spread xs hi * ((xs.length : Int) - perBest xs lo hi) := by
  unfold perBest
  cases ht : (hi - lo).toNat with
  | zero =>
    obtain rfl : lo = hi := by omega
    exact Int.le_refl _
  | succ t =>
    have e : lo + 1 + (t : Int) = hi := by omega
    rw [bestTo, e]
    cases hd : decide (spread xs hi * ((xs.length : Int) - bestTo xs lo t) < spread xs (bestTo xs lo t) * ((xs.length : Int) - hi))
    · rw [cond_false]
      have := of_decide_eq_false hd
      omega
    · rw [cond_true]; exact Int.le_refl _
end Go.Proofs.YtpdecefdhkhlnaaGreatDoor
set_option maxRecDepth 100000
set_option maxHeartbeats 4000000
set_option linter.unusedSimpArgs false
set_option linter.unusedVariables false
set_option linter.unusedSectionVars false
namespace Go.Proofs.YtpdecefdhkhlnaaGreatDoor
open Go.Ab Go.RowKit
variable [Dr]
abbrev humA (p f : Int) (ts : List Int) : AV := .ag [iv p, iv f, isl ts]
theorem c_combErr (p f : Int) (ts xs : List Int) (c : Int) (hl : Len xs.length) (hlt : Len ts.length) (hp : I64 p) (h0 : humsErr p f ts xs ≠ 0) :
    Pure Tryz.prog 46 [humA p f ts, isl xs, iv c] (.tu [isl [], iv (humsErr p f ts xs)]) := by
  have hb : (firstE [humErr p f ts, signalErr xs] != 0) = true := by simpa [humsErr] using h0
  refine p_intro evOk [9, 49] Tryz.func46 rfl Tryz.call46 ?_
  repeat' first
   | refine v_seq ?_ | refine v_block ?_ | refine v_ret ?_ | refine v_skip ?_ | (refine v_exit ?_; repeat' first | refine xB_eq ?_ | refine xB_ne rfl ?_)
   | ((first | refine rgA fun K hK => ?_ | refine rgB rfl fun K hK => ?_ | refine rgC rfl fun K hK => ?_); simp only [go_sem,simprocAttr,hb,isl])
   | (simp (disch := first | omega | rfl | (simp only [lnn]; omega)) only [spl])
   | (refine hK _ ?_; clear hK K)
   | (refine gdB_intro (fun h => ?_) (fun h => ?_) <;> simp only [go_sem,simprocAttr,h,hb,isl] <;> (have h' := h; try simp only [bl] at h'))
   | (refine v_cond rfl (fun h => ?_) (fun h => ?_) <;> first | (exact Bool.noConfusion h) | (have h' := h; try simp only [bl] at h'))
   | (refine r_ret ?_; simp only [resL, resA, Tryz.f46, lk_cons', lk_nil', Nat.reduceBEq]; first | exact ⟨rfl, Sb.nil _, rfl⟩ | refine ⟨rfl, sbt ?_, rfl⟩ | refine ⟨rfl, Sb.of_eq ?_, rfl⟩)
   | (refine And.intro (by first | exact True.intro | omega | rfl | exact Nat.le_of_ble_eq_true rfl | (simp only [lnn]; omega) | exact List.forall_mem_nil _ | (refine List.forall_mem_cons.2 ⟨⟨_, rfl⟩, ?_⟩; repeat' first | exact List.forall_mem_nil _ | refine List.forall_mem_cons.2 ⟨⟨_, rfl⟩, ?_⟩)) ?_)
   | ((first | refine call_pure' (c_CheckHum _ _ _ hlt hp) rfl ?_ | refine call_pure' (c_err _ hl) rfl ?_ | refine call_pure' (c_first [_, _] (len_lit rfl)) rfl ?_); simp only [go_sem,simprocAttr,hb,isl])
   | fail
  all_goals rfl
theorem c_comb (p f : Int) (ts xs : List Int) (c : Int) (hc : c = 1 ∨ c = -1) (h1 : humErr p f ts = 0) (h2 : signalErr xs = 0) :
    Pure Tryz.prog 46 [humA p f ts, isl xs, iv c] (.tu [isl (humAll p f ts xs c), iv (bif areSamples (humTo p f ts xs c xs.length) then 0 else 23)]) := by
  obtain ⟨a1, a2, a3, a4⟩ := humErr_zero h1
  obtain ⟨hn, hx⟩ := signalErr_zero h2
  have hl : Len xs.length := by unfold Len; omega
  have hlt : Len ts.length := by unfold Len; omega
  have hf : firstE [0, 0] = 0 := rfl
  have herr := c_err xs hl
  rw [h2] at herr
  have hch := c_CheckHum p f ts hlt (by unfold I64; omega)
  rw [h1] at hch
  unfold humAll
  cases hA : areSamples (humTo p f ts xs c xs.length)
  all_goals
    simp only [cond_true, cond_false]
    refine p_intro evOk [9, 49] Tryz.func46 rfl Tryz.call46 ?_
    repeat' first
     | refine v_seq ?_ | refine v_block ?_ | refine v_ret ?_ | refine v_skip ?_ | (refine v_exit ?_; repeat' first | refine xB_eq ?_ | refine xB_ne rfl ?_)
     | ((first | refine rgA fun K hK => ?_ | refine rgB rfl fun K hK => ?_ | refine rgC rfl fun K hK => ?_); simp only [go_sem,simprocAttr,hf,bne_self_eq_false,isl])
     | (simp (disch := first | omega | rfl | (simp only [lnn]; omega)) only [spl])
     | (refine hK _ ?_; clear hK K)
     | (refine gdB_intro (fun h => ?_) (fun h => ?_) <;> simp only [go_sem,simprocAttr,h,hf,bne_self_eq_false,isl] <;> (have h' := h; try simp only [bl] at h'))
     | (refine v_cond rfl (fun h => ?_) (fun h => ?_) <;> first | (exact Bool.noConfusion h) | (have h' := h; try simp only [bl] at h'))
     | (refine r_ret ?_; simp only [resL, resA, Tryz.f46, lk_cons', lk_nil', Nat.reduceBEq]; first | exact ⟨rfl, Sb.nil _, rfl⟩ | refine ⟨rfl, sbt ?_, rfl⟩ | refine ⟨rfl, Sb.of_eq ?_, rfl⟩)
     | (refine And.intro (by first | exact True.intro | omega | rfl | exact Nat.le_of_ble_eq_true rfl | (simp only [lnn]; omega) | exact List.forall_mem_nil _ | (refine List.forall_mem_cons.2 ⟨⟨_, rfl⟩, ?_⟩; repeat' first | exact List.forall_mem_nil _ | refine List.forall_mem_cons.2 ⟨⟨_, rfl⟩, ?_⟩)) ?_)
     | ((first | refine call_pure' (hch) rfl ?_ | refine call_pure' (herr) rfl ?_ | refine call_pure' (c_first [0, 0] (len_lit rfl)) rfl ?_); simp only [go_sem,simprocAttr,hf,bne_self_eq_false,isl])
     | fail
    refine v_loop (T := Nat) (fun i => ⟨[(1, isl xs), (2, iv c), (3, .pt [iv p, iv f, isl ts] 0), (21, isl xs), (22, iv xs.length), (23, iv i), (9, .ls i 0 1 i)], hset emp i (some (ints (humTo p f ts xs c i))), i + 1, (52, 0, 0)⟩) (fun i => i ≤ xs.length ∧ areSamples (humTo p f ts xs c i) = true) (fun i => xs.length - i) 0 ⟨by omega, rfl⟩ (ent_row1 (by (repeat' first | exact trivial | refine ⟨?_, ?_⟩ | rfl)) rfl (by (simp only [hset', beq_self_eq_true] <;> rfl)) (by (first | omega | (dsimp only; omega))) (by (first | omega | (dsimp only; omega)))) ?_
    rintro i ⟨hi, hP⟩
    have hdl := humTo_length p f ts xs c i
    have hs := sample_gi hx i
    have hg := inTab_gi a4 (((i : Int) + f).tmod p)
    have ht := tmod_in (n := (i : Int) + f) (p := p) a1.1 (by omega)
    have hm : -65534 ≤ c * gi ts (((i : Int) + f).tmod p) ∧ c * gi ts (((i : Int) + f).tmod p) ≤ 65534 := by
      rcases hc with rfl | rfl <;> omega
    repeat' first
     | refine v_seq ?_ | refine v_block ?_ | refine v_ret ?_ | refine v_skip ?_ | (refine v_exit ?_; repeat' first | refine xB_eq ?_ | refine xB_ne rfl ?_)
     | ((first | refine rgA fun K hK => ?_ | refine rgB rfl fun K hK => ?_ | refine rgC rfl fun K hK => ?_); simp only [go_sem,simprocAttr])
     | (simp (disch := first | omega | rfl | (simp only [lnn]; omega)) only [spl])
     | (refine hK _ ?_; clear hK K)
     | (refine gdB_intro (fun h => ?_) (fun h => ?_) <;> simp only [go_sem,simprocAttr,h] <;> (have h' := h; try simp only [bl] at h'))
     | (refine v_cond rfl (fun h => ?_) (fun h => ?_) <;> first | (exact Bool.noConfusion h) | (have h' := h; try simp only [bl] at h'))
     | (refine r_ret ?_; simp only [resL, resA, Tryz.f46, lk_cons', lk_nil', Nat.reduceBEq]; first | exact ⟨rfl, Sb.nil _, rfl⟩ | refine ⟨rfl, sbt ?_, rfl⟩ | refine ⟨rfl, Sb.of_eq ?_, rfl⟩)
     | (refine And.intro (by first | exact True.intro | omega | rfl | exact Nat.le_of_ble_eq_true rfl | (simp only [lnn]; omega) | exact List.forall_mem_nil _ | (refine List.forall_mem_cons.2 ⟨⟨_, rfl⟩, ?_⟩; repeat' first | exact List.forall_mem_nil _ | refine List.forall_mem_cons.2 ⟨⟨_, rfl⟩, ?_⟩)) ?_)
     | ((first | refine call_pure' (c_isSized _ _ (by omega)) rfl ?_); simp only [go_sem,simprocAttr])
     | fail
  · have hsz : isSample (humAt p f ts xs c i) = true := by show within _ _ _ = true; have h3 := h; simp only [Bool.not_eq_false'] at h3; exact h3
    exact ⟨i + 1, ent_row1 (r := i + 1) (by (repeat' first | exact trivial | refine ⟨?_, ?_⟩ | rfl)) rfl (by rw [← humTo_succ]; simp only [hset', beq_self_eq_true, List.take_of_length_le (Nat.le_of_eq hdl)]; rfl) (by (first | omega | (dsimp only; omega))) (by (first | omega | (dsimp only; omega))), ⟨by omega, by rw [humTo_all, hP, hsz]; rfl⟩, by omega⟩
  · obtain rfl : i = xs.length := by omega
    rw [hP] at hA; cases hA
  · have hbad : isSample (humAt p f ts xs c i) = false := by show within _ _ _ = false; have h3 := h; simp only [Bool.not_eq_true'] at h3; exact h3
    rw [humTo_bad (by omega) hbad] at hA; cases hA
  · have hsz : isSample (humAt p f ts xs c i) = true := by show within _ _ _ = true; have h3 := h; simp only [Bool.not_eq_false'] at h3; exact h3
    exact ⟨i + 1, ent_row1 (r := i + 1) (by (repeat' first | exact trivial | refine ⟨?_, ?_⟩ | rfl)) rfl (by rw [← humTo_succ]; simp only [hset', beq_self_eq_true, List.take_of_length_le (Nat.le_of_eq hdl)]; rfl) (by (first | omega | (dsimp only; omega))) (by (first | omega | (dsimp only; omega))), ⟨by omega, by rw [humTo_all, hP, hsz]; rfl⟩, by omega⟩
  · obtain rfl : i = xs.length := by omega
    refine r_freeze (xs.length) (hset_at _ _ _) (by simp only [ints_plain]) ?_
    refine r_ret ?_
    simp (disch := first | omega | simp) only [fzF, fz_ls, fz_other, resL, resA, Tryz.f46, lk_cons', lk_nil', Nat.reduceBEq]
    refine ⟨rfl, Sb.of_eq ?_, rfl⟩
    simp only [iv, List.take_of_length_le (Nat.le_of_eq (humTo_length p f ts xs c xs.length))]
theorem c_combAll (p f : Int) (ts xs : List Int) (c : Int) (hc : c = 1 ∨ c = -1) (hl : Len xs.length) (hlt : Len ts.length) (hp : I64 p) :
    Pure Tryz.prog 46 [humA p f ts, isl xs, iv c] (.tu [isl (remL p f ts xs c), iv (remE p f ts xs c)]) := by
  unfold remL remE
  by_cases h : humsErr p f ts xs = 0
  · obtain ⟨h1, h2⟩ := humsErr_zero h
    rw [h]
    exact c_comb p f ts xs c hc h1 h2
  · rw [show (humsErr p f ts xs == 0) = false by simpa using h]
    exact c_combErr p f ts xs c hl hlt hp h
theorem c_Removed (p f : Int) (ts xs : List Int) (hl : Len xs.length) (hlt : Len ts.length) (hp : I64 p) :
    Pure Tryz.prog 18 [humA p f ts, isl xs] (.tu [isl (remL p f ts xs (-1)), iv (remE p f ts xs (-1))]) := by
  refine p_intro evOk [] Tryz.func18 rfl Tryz.call18 ?_
  repeat' first
   | refine v_seq ?_ | refine v_block ?_ | refine v_ret ?_ | refine v_skip ?_ | (refine v_exit ?_; repeat' first | refine xB_eq ?_ | refine xB_ne rfl ?_)
   | ((first | refine rgA fun K hK => ?_ | refine rgB rfl fun K hK => ?_ | refine rgC rfl fun K hK => ?_); simp only [go_sem,simprocAttr,isl])
   | (simp (disch := first | omega | rfl | (simp only [lnn]; omega)) only [spl])
   | (refine hK _ ?_; clear hK K)
   | (refine gdB_intro (fun h => ?_) (fun h => ?_) <;> simp only [go_sem,simprocAttr,h,isl] <;> (have h' := h; try simp only [bl] at h'))
   | (refine v_cond rfl (fun h => ?_) (fun h => ?_) <;> first | (exact Bool.noConfusion h) | (have h' := h; try simp only [bl] at h'))
   | (refine r_ret ?_; simp only [resL, resA, Tryz.f18, lk_cons', lk_nil', Nat.reduceBEq]; first | exact ⟨rfl, Sb.nil _, rfl⟩ | refine ⟨rfl, sbt ?_, rfl⟩ | refine ⟨rfl, Sb.of_eq ?_, rfl⟩)
   | (refine And.intro (by first | exact True.intro | omega | rfl | exact Nat.le_of_ble_eq_true rfl | (simp only [lnn]; omega) | exact List.forall_mem_nil _ | (refine List.forall_mem_cons.2 ⟨⟨_, rfl⟩, ?_⟩; repeat' first | exact List.forall_mem_nil _ | refine List.forall_mem_cons.2 ⟨⟨_, rfl⟩, ?_⟩)) ?_)
   | ((first | refine call_pure' (c_combAll p f ts xs (-1) (.inr rfl) hl hlt hp) rfl ?_); simp only [go_sem,simprocAttr,isl])
   | fail
  all_goals rfl
theorem c_Added (p f : Int) (ts xs : List Int) (hl : Len xs.length) (hlt : Len ts.length) (hp : I64 p) :
    Pure Tryz.prog 20 [humA p f ts, isl xs] (.tu [isl (remL p f ts xs 1), iv (remE p f ts xs 1)]) := by
  refine p_intro evOk [] Tryz.func20 rfl Tryz.call20 ?_
  repeat' first
   | refine v_seq ?_ | refine v_block ?_ | refine v_ret ?_ | refine v_skip ?_ | (refine v_exit ?_; repeat' first | refine xB_eq ?_ | refine xB_ne rfl ?_)
   | ((first | refine rgA fun K hK => ?_ | refine rgB rfl fun K hK => ?_ | refine rgC rfl fun K hK => ?_); simp only [go_sem,simprocAttr,isl])
   | (simp (disch := first | omega | rfl | (simp only [lnn]; omega)) only [spl])
   | (refine hK _ ?_; clear hK K)
   | (refine gdB_intro (fun h => ?_) (fun h => ?_) <;> simp only [go_sem,simprocAttr,h,isl] <;> (have h' := h; try simp only [bl] at h'))
   | (refine v_cond rfl (fun h => ?_) (fun h => ?_) <;> first | (exact Bool.noConfusion h) | (have h' := h; try simp only [bl] at h'))
   | (refine r_ret ?_; simp only [resL, resA, Tryz.f20, lk_cons', lk_nil', Nat.reduceBEq]; first | exact ⟨rfl, Sb.nil _, rfl⟩ | refine ⟨rfl, sbt ?_, rfl⟩ | refine ⟨rfl, Sb.of_eq ?_, rfl⟩)
   | (refine And.intro (by first | exact True.intro | omega | rfl | exact Nat.le_of_ble_eq_true rfl | (simp only [lnn]; omega) | exact List.forall_mem_nil _ | (refine List.forall_mem_cons.2 ⟨⟨_, rfl⟩, ?_⟩; repeat' first | exact List.forall_mem_nil _ | refine List.forall_mem_cons.2 ⟨⟨_, rfl⟩, ?_⟩)) ?_)
   | ((first | refine call_pure' (c_combAll p f ts xs 1 (.inl rfl) hl hlt hp) rfl ?_); simp only [go_sem,simprocAttr,isl])
   | fail
  all_goals rfl
end Go.Proofs.YtpdecefdhkhlnaaGreatDoor
set_option linter.unusedSimpArgs false
set_option linter.unusedVariables false
namespace Go.Proofs.YtpdecefdhkhlnaaGreatDoor
open Go.Ab
theorem gi_humTo {p f : Int} {ts xs : List Int} {c : Int} {n i : Nat} (hi : i < n) : gi (humTo p f ts xs c n) i = humAt p f ts xs c i := by
  unfold humTo gi
  simp [hi]
theorem hum_back {p f : Int} {ts xs : List Int} (c : Int) : humTo p f ts (humTo p f ts xs c xs.length) (-c) xs.length = xs := by
  refine gi_ext (by rw [humTo_length]) fun i hi => ?_
  rw [humTo_length] at hi
  rw [gi_humTo hi]
  unfold humAt
  rw [gi_humTo hi]
  unfold humAt
  rw [Int.neg_mul]
  omega
theorem rem_back {p f : Int} {ts xs : List Int} {c : Int} (h1 : humErr p f ts = 0) (h2 : signalErr xs = 0) (hA : areSamples (humTo p f ts xs c xs.length) = true) :
    remL p f ts (humTo p f ts xs c xs.length) (-c) = xs ∧ remE p f ts (humTo p f ts xs c xs.length) (-c) = 0 := by
  obtain ⟨hn, hx⟩ := signalErr_zero h2
  have hl := humTo_length p f ts xs c xs.length
  have hs : signalErr (humTo p f ts xs c xs.length) = 0 := by
    unfold signalErr
    rw [hl, decide_eq_false (by omega), hA]; rfl
  have hE : humsErr p f ts (humTo p f ts xs c xs.length) = 0 := by
    unfold humsErr firstE firstE firstE
    rw [h1, hs]; rfl
  have hb := hum_back (p := p) (f := f) (ts := ts) (xs := xs) c
  unfold remL remE humAll
  rw [hE, hl, hb, hx]
  exact ⟨rfl, rfl⟩
theorem rem_fine {p f : Int} {ts xs : List Int} {c : Int} (h1 : humErr p f ts = 0) (h2 : signalErr xs = 0) (hA : areSamples (humTo p f ts xs c xs.length) = true) :
    remL p f ts xs c = humTo p f ts xs c xs.length ∧ remE p f ts xs c = 0 := by
  have hE : humsErr p f ts xs = 0 := by
    unfold humsErr firstE firstE firstE
    rw [h1, h2]; rfl
  unfold remL remE humAll
  rw [hE, hA]
  exact ⟨rfl, rfl⟩
theorem rem_bad {p f : Int} {ts xs : List Int} {c : Int} (h1 : humErr p f ts = 0) (h2 : signalErr xs = 0) (hA : areSamples (humTo p f ts xs c xs.length) = false) :
    remE p f ts xs c = 23 := by
  have hE : humsErr p f ts xs = 0 := by
    unfold humsErr firstE firstE firstE
    rw [h1, h2]; rfl
  unfold remE
  rw [hE, hA]; rfl
theorem tab_length (xs : List Int) (p : Nat) : (humTab xs p).length = p := by
  unfold humTab
  rw [humTabTo_length]; omega
end Go.Proofs.YtpdecefdhkhlnaaGreatDoor
set_option maxRecDepth 100000
set_option maxHeartbeats 4000000
set_option linter.unusedSimpArgs false
set_option linter.unusedVariables false
set_option linter.unusedSectionVars false
namespace Go.Proofs.YtpdecefdhkhlnaaGreatDoor
open Go.Ab Go.RowKit Go.Shelf Go.Proofs
attribute [local instance] drV loV
theorem spread_rem {xs ts : List Int} {p c : Int} (hp : 1 ≤ p) : spread (humTo p 0 ts xs c xs.length) p = spread xs p := by
  unfold spread
  rw [humTo_length]
  refine sumTo_congr fun i hi => ?_
  unfold spreadAt
  have h1 : i < xs.length := by omega
  obtain ⟨q, rfl⟩ : ∃ q : Nat, p = q := ⟨p.toNat, by omega⟩
  have e : (i : Int) + (q : Int) = ((i + q : Nat) : Int) := by omega
  rw [e, gi_humTo h1, gi_humTo (show i + q < xs.length by omega)]
  unfold humAt
  have ht : (((i + q : Nat) : Int) + 0).tmod (q : Int) = ((i : Int) + 0).tmod (q : Int) := by
    rw [Int.add_zero, Int.add_zero, ← Int.ofNat_tmod, ← Int.ofNat_tmod, Nat.add_mod_right]
  rw [ht]
  have e3 : ∀ a b t : Int, (a + t - (b + t)) = a - b := fun a b t => by omega
  rw [e3]
theorem sgn_le {a : Int} (h : a ≤ 0) : decide (0 < sgn a) = false := by
  by_cases h1 : a < 0
  · rw [sgn_neg h1]; rfl
  · obtain rfl : a = 0 := by omega
    rfl
theorem tab_err1 {xs : List Int} {p : Nat} (hx : areSamples xs = true) (h1 : 1 ≤ p) (h2 : p ≤ 64) (hN : p < xs.length) : humErr p 0 (humTab xs p) = 0 := by
  have hm := meanI_bound hx (by omega)
  unfold humErr
  rw [show (within (p : Int) 1 64 && within 0 0 ((p : Int) - 1)) = true by rw [Bool.and_eq_true, within_iff, within_iff]; omega, tab_length, decide_eq_true rfl]
  have : (humTab xs p).all inTab = true := by
    rw [List.all_eq_true]
    intro x hxm
    unfold humTab humTabTo at hxm
    obtain ⟨j, hj, rfl⟩ := List.mem_map.1 hxm
    have hj' := List.mem_range.1 hj
    rw [Int.toNat_natCast] at hj' ⊢
    have := meanI_bound (phz_samples hx p xs.length j) (phz_pos hj' xs.length (by omega))
    rw [inTab, within_iff]
    omega
  rw [this]; rfl
theorem s_TopClickHumTakenBack (xs : List Int) (q : Int) : Pure Tryz.prog 3 [isl xs, iv q] (.v (.bool true)) := by
  cases d1 : decide ((100 : Int) < xs.length)
  case true =>
    refine p_intro evOk [7, 9] Tryz.func3 rfl Tryz.call3 ?_
    repeat' first
     | refine v_seq ?_ | refine v_block ?_ | refine v_ret ?_ | refine v_skip ?_ | (refine v_exit ?_; repeat' first | refine xB_eq ?_ | refine xB_ne rfl ?_)
     | ((first | refine rgA fun K hK => ?_ | refine rgB rfl fun K hK => ?_ | refine rgC rfl fun K hK => ?_); simp only [go_sem,simprocAttr,d1,isl])
     | (simp (disch := first | omega | rfl | (simp only [lnn]; omega)) only [spl])
     | (refine hK _ ?_; clear hK K)
     | (refine gdB_intro (fun h => ?_) (fun h => ?_) <;> simp only [go_sem,simprocAttr,h,d1,isl] <;> (have h' := h; try simp only [bl] at h'))
     | (refine v_cond rfl (fun h => ?_) (fun h => ?_) <;> first | (exact Bool.noConfusion h) | (have h' := h; try simp only [bl] at h'))
     | (refine r_ret ?_; simp only [resL, resA, Tryz.f3, lk_cons', lk_nil', Nat.reduceBEq]; first | exact ⟨rfl, Sb.nil _, rfl⟩ | refine ⟨rfl, sbt ?_, rfl⟩ | refine ⟨rfl, Sb.of_eq ?_, rfl⟩)
     | (refine And.intro (by first | exact True.intro | omega | rfl | exact Nat.le_of_ble_eq_true rfl | (simp only [lnn]; omega) | exact List.forall_mem_nil _ | (refine List.forall_mem_cons.2 ⟨⟨_, rfl⟩, ?_⟩; repeat' first | exact List.forall_mem_nil _ | refine List.forall_mem_cons.2 ⟨⟨_, rfl⟩, ?_⟩)) ?_)
     | ((first | refine call_pure' (c_clickAwake) rfl ?_); simp only [go_sem,simprocAttr,d1,isl])
     | fail
    all_goals rfl
  have hl : Len xs.length := by have := of_decide_eq_false d1; unfold Len; omega
  by_cases h2 : signalErr xs = 0
  case neg =>
    have hb : (signalErr xs != 0) = true := by simpa using h2
    refine p_intro evOk [7, 9] Tryz.func3 rfl Tryz.call3 ?_
    repeat' first
     | refine v_seq ?_ | refine v_block ?_ | refine v_ret ?_ | refine v_skip ?_ | (refine v_exit ?_; repeat' first | refine xB_eq ?_ | refine xB_ne rfl ?_)
     | ((first | refine rgA fun K hK => ?_ | refine rgB rfl fun K hK => ?_ | refine rgC rfl fun K hK => ?_); simp only [go_sem,simprocAttr,d1,hb,isl])
     | (simp (disch := first | omega | rfl | (simp only [lnn]; omega)) only [spl])
     | (refine hK _ ?_; clear hK K)
     | (refine gdB_intro (fun h => ?_) (fun h => ?_) <;> simp only [go_sem,simprocAttr,h,d1,hb,isl] <;> (have h' := h; try simp only [bl] at h'))
     | (refine v_cond rfl (fun h => ?_) (fun h => ?_) <;> first | (exact Bool.noConfusion h) | (have h' := h; try simp only [bl] at h'))
     | (refine r_ret ?_; simp only [resL, resA, Tryz.f3, lk_cons', lk_nil', Nat.reduceBEq]; first | exact ⟨rfl, Sb.nil _, rfl⟩ | refine ⟨rfl, sbt ?_, rfl⟩ | refine ⟨rfl, Sb.of_eq ?_, rfl⟩)
     | (refine And.intro (by first | exact True.intro | omega | rfl | exact Nat.le_of_ble_eq_true rfl | (simp only [lnn]; omega) | exact List.forall_mem_nil _ | (refine List.forall_mem_cons.2 ⟨⟨_, rfl⟩, ?_⟩; repeat' first | exact List.forall_mem_nil _ | refine List.forall_mem_cons.2 ⟨⟨_, rfl⟩, ?_⟩)) ?_)
     | ((first | refine call_pure' (c_clickAwake) rfl ?_ | refine call_pure' (c_SignalErr _ hl) rfl ?_); simp only [go_sem,simprocAttr,d1,hb,isl])
     | fail
    all_goals rfl
  have hsE := c_SignalErr xs hl
  rw [h2] at hsE
  cases d3 : within q 1 64
  case false =>
    refine p_intro evOk [7, 9] Tryz.func3 rfl Tryz.call3 ?_
    repeat' first
     | refine v_seq ?_ | refine v_block ?_ | refine v_ret ?_ | refine v_skip ?_ | (refine v_exit ?_; repeat' first | refine xB_eq ?_ | refine xB_ne rfl ?_)
     | ((first | refine rgA fun K hK => ?_ | refine rgB rfl fun K hK => ?_ | refine rgC rfl fun K hK => ?_); simp only [go_sem,simprocAttr,d1,d3,isl,bne_self_eq_false])
     | (simp (disch := first | omega | rfl | (simp only [lnn]; omega)) only [spl])
     | (refine hK _ ?_; clear hK K)
     | (refine gdB_intro (fun h => ?_) (fun h => ?_) <;> simp only [go_sem,simprocAttr,h,d1,d3,isl,bne_self_eq_false] <;> (have h' := h; try simp only [bl] at h'))
     | (refine v_cond rfl (fun h => ?_) (fun h => ?_) <;> first | (exact Bool.noConfusion h) | (have h' := h; try simp only [bl] at h'))
     | (refine r_ret ?_; simp only [resL, resA, Tryz.f3, lk_cons', lk_nil', Nat.reduceBEq]; first | exact ⟨rfl, Sb.nil _, rfl⟩ | refine ⟨rfl, sbt ?_, rfl⟩ | refine ⟨rfl, Sb.of_eq ?_, rfl⟩)
     | (refine And.intro (by first | exact True.intro | omega | rfl | exact Nat.le_of_ble_eq_true rfl | (simp only [lnn]; omega) | exact List.forall_mem_nil _ | (refine List.forall_mem_cons.2 ⟨⟨_, rfl⟩, ?_⟩; repeat' first | exact List.forall_mem_nil _ | refine List.forall_mem_cons.2 ⟨⟨_, rfl⟩, ?_⟩)) ?_)
     | ((first | refine call_pure' (c_clickAwake) rfl ?_ | refine call_pure' (hsE) rfl ?_ | refine call_pure' (c_Within _ _ _) rfl ?_); simp only [go_sem,simprocAttr,d1,d3,isl,bne_self_eq_false])
     | fail
    all_goals rfl
  cases d4 : decide ((xs.length : Int) ≤ q)
  case true =>
    refine p_intro evOk [7, 9] Tryz.func3 rfl Tryz.call3 ?_
    repeat' first
     | refine v_seq ?_ | refine v_block ?_ | refine v_ret ?_ | refine v_skip ?_ | (refine v_exit ?_; repeat' first | refine xB_eq ?_ | refine xB_ne rfl ?_)
     | ((first | refine rgA fun K hK => ?_ | refine rgB rfl fun K hK => ?_ | refine rgC rfl fun K hK => ?_); simp only [go_sem,simprocAttr,d1,d3,d4,isl,bne_self_eq_false])
     | (simp (disch := first | omega | rfl | (simp only [lnn]; omega)) only [spl])
     | (refine hK _ ?_; clear hK K)
     | (refine gdB_intro (fun h => ?_) (fun h => ?_) <;> simp only [go_sem,simprocAttr,h,d1,d3,d4,isl,bne_self_eq_false] <;> (have h' := h; try simp only [bl] at h'))
     | (refine v_cond rfl (fun h => ?_) (fun h => ?_) <;> first | (exact Bool.noConfusion h) | (have h' := h; try simp only [bl] at h'))
     | (refine r_ret ?_; simp only [resL, resA, Tryz.f3, lk_cons', lk_nil', Nat.reduceBEq]; first | exact ⟨rfl, Sb.nil _, rfl⟩ | refine ⟨rfl, sbt ?_, rfl⟩ | refine ⟨rfl, Sb.of_eq ?_, rfl⟩)
     | (refine And.intro (by first | exact True.intro | omega | rfl | exact Nat.le_of_ble_eq_true rfl | (simp only [lnn]; omega) | exact List.forall_mem_nil _ | (refine List.forall_mem_cons.2 ⟨⟨_, rfl⟩, ?_⟩; repeat' first | exact List.forall_mem_nil _ | refine List.forall_mem_cons.2 ⟨⟨_, rfl⟩, ?_⟩)) ?_)
     | ((first | refine call_pure' (c_clickAwake) rfl ?_ | refine call_pure' (hsE) rfl ?_ | refine call_pure' (c_Within _ _ _) rfl ?_); simp only [go_sem,simprocAttr,d1,d3,d4,isl,bne_self_eq_false])
     | fail
    all_goals rfl
  obtain ⟨hn, hx⟩ := signalErr_zero h2
  have hq := within_iff.1 d3
  have hql := of_decide_eq_false d4
  have hper : perErr xs 1 q = 0 := by
    unfold perErr
    rw [within_iff.2 (show (1 : Int) ≤ 1 ∧ (1 : Int) ≤ 64 by omega), d3, decide_eq_true (show (1 : Int) ≤ q by omega), decide_eq_true (show q < (xs.length : Int) by omega)]; rfl
  have kp := c_PeriodOfOk xs 1 q h2 hper
  have hbest := perBest_le (xs := xs) (show (1 : Int) ≤ q by omega)
  have hbin : 1 ≤ perBest xs 1 q ∧ perBest xs 1 q ≤ q := by
    have := bestTo_in xs 1 (q - 1).toNat
    unfold perBest; omega
  have hlen := of_decide_eq_false d1
  generalize perBest xs 1 q = b at kp hbest hbin
  have kw := c_Within b 1 q
  rw [within_iff.2 hbin] at kw
  have ks1 := c_clickSpread xs b hx (by omega) (by omega)
  have ks2 := c_clickSpread xs q hx (by omega) (by omega)
  have sb1 := spread_bound hx (by omega) b (by omega)
  have sb2 := spread_bound hx (by omega) q (by omega)
  have kc := c_Compare (spread xs b) ((xs.length : Int) - b) (spread xs q) ((xs.length : Int) - q) (by omega) (by omega) (by omega) (by omega)
  have hsg := sgn_le (a := spread xs b * ((xs.length : Int) - q) - spread xs q * ((xs.length : Int) - b)) (by omega)
  generalize sgn (spread xs b * ((xs.length : Int) - q) - spread xs q * ((xs.length : Int) - b)) = sg at kc hsg
  obtain ⟨k, rfl⟩ : ∃ k : Nat, q = k := ⟨q.toNat, by omega⟩
  have hH0 : hpErr xs k = 0 := by
    unfold hpErr
    rw [d3, decide_eq_true (show (k : Int) ≤ xs.length by omega)]; rfl
  have kH := c_HumOfOk xs k h2 hH0
  have hT0 := tab_err1 hx (show 1 ≤ k by omega) (by omega) (by omega)
  have hTl := tab_length xs k
  have hlT : Len (humTab xs k).length := by rw [hTl]; unfold Len; omega
  have hpT : I64 (k : Int) := by unfold I64; omega
  have kE := c_HumErr k 0 (humTab xs k) hlT hpT
  rw [hT0] at kE
  have kF := c_FormatBack k 0 (humTab xs k) hT0
  have kB := c_ParseBack k 0 (humTab xs k) hT0
  have kS := c_SameHum k k 0 0 (humTab xs k) (humTab xs k) hlT
  have kC := c_CopyHum k 0 (humTab xs k) hlT
  have kR := c_Removed k 0 (humTab xs k) xs hl hlT hpT
  have hspr := spread_rem (xs := xs) (ts := humTab xs k) (p := k) (c := -1) (by omega)
  generalize humTab xs k = ts at *
  generalize join7 (hwTo k 0 ts ts.length) ⟨#[32]⟩ = str at kF kB
  rw [decide_eq_true ⟨rfl, rfl, rfl⟩] at kS
  have e6 : ∀ x y z : AV, List.take 3 [x, y, z] = [x, y, z] := fun _ _ _ => rfl
  have e7 : ∀ x y z x' y' z' : AV, splice [x, y, z] 0 [x', y', z'] = [x', y', z'] := fun _ _ _ _ _ _ => rfl
  cases hA : areSamples (humTo k 0 ts xs (-1) xs.length)
  case false =>
    rw [rem_bad hT0 h2 hA] at kR
    refine p_intro evOk [7, 9] Tryz.func3 rfl Tryz.call3 ?_
    repeat' first
     | refine v_seq ?_ | refine v_block ?_ | refine v_ret ?_ | refine v_skip ?_ | (refine v_exit ?_; repeat' first | refine xB_eq ?_ | refine xB_ne rfl ?_)
     | ((first | refine rgA fun K hK => ?_ | refine rgB rfl fun K hK => ?_ | refine rgC rfl fun K hK => ?_); simp only [go_sem,simprocAttr,d1,d3,d4,hsg,e6,e7,isl,bne_self_eq_false,hset_at,hset_hset])
     | (simp (disch := first | omega | rfl | (simp only [lnn]; omega)) only [spl])
     | (refine hK _ ?_; clear hK K)
     | (refine gdB_intro (fun h => ?_) (fun h => ?_) <;> simp only [go_sem,simprocAttr,h,d1,d3,d4,hsg,e6,e7,isl,bne_self_eq_false,hset_at,hset_hset] <;> (have h' := h; try simp only [bl] at h'))
     | (refine v_cond rfl (fun h => ?_) (fun h => ?_) <;> first | (exact Bool.noConfusion h) | (have h' := h; try simp only [bl] at h'))
     | (refine r_ret ?_; simp only [resL, resA, Tryz.f3, lk_cons', lk_nil', Nat.reduceBEq]; first | exact ⟨rfl, Sb.nil _, rfl⟩ | refine ⟨rfl, sbt ?_, rfl⟩ | refine ⟨rfl, Sb.of_eq ?_, rfl⟩)
     | (refine And.intro (by first | exact True.intro | omega | rfl | exact Nat.le_of_ble_eq_true rfl | (simp only [lnn]; omega) | exact List.forall_mem_nil _ | (refine List.forall_mem_cons.2 ⟨⟨_, rfl⟩, ?_⟩; repeat' first | exact List.forall_mem_nil _ | refine List.forall_mem_cons.2 ⟨⟨_, rfl⟩, ?_⟩)) ?_)
     | ((first | refine call_pure' (c_clickAwake) rfl ?_ | refine call_pure' (hsE) rfl ?_ | refine call_pure' (kw) rfl ?_ | refine call_pure' (c_Within _ _ _) rfl ?_ | refine call_pure' (c_CopyInts _ hl) rfl ?_ | refine call_pure' (kp) rfl ?_ | refine call_pure' (ks1) rfl ?_ | refine call_pure' (ks2) rfl ?_ | refine call_pure' (kc) rfl ?_ | refine call_pure' (kH) rfl ?_ | refine call_pure' (kE) rfl ?_ | refine call_pure' (kC) rfl ?_ | refine call_pure' (kF) rfl ?_ | refine call_pure' (kB) rfl ?_ | refine call_pure' (kS) rfl ?_ | refine call_pure' (kR) rfl ?_); simp only [go_sem,simprocAttr,d1,d3,d4,hsg,e6,e7,isl,bne_self_eq_false,hset_at,hset_hset])
     | fail
    all_goals first | rfl | exact absurd trivial h'
  case true =>
    obtain ⟨q1, q2⟩ := rem_fine hT0 h2 hA
    obtain ⟨b1, b2⟩ := rem_back hT0 h2 hA
    rw [show (- -1 : Int) = 1 from rfl] at b1 b2
    rw [q1, q2] at kR
    have hyl : (humTo k 0 ts xs (-1) xs.length).length = xs.length := humTo_length _ _ _ _ _ _
    generalize humTo k 0 ts xs (-1) xs.length = ys at *
    have hly : Len ys.length := by rw [hyl]; exact hl
    have kA := c_Added k 0 ts ys hly hlT hpT
    rw [b1, b2] at kA
    have kY := c_AreSamples ys hly
    rw [hA] at kY
    have ks3 := c_clickSpread ys k hA (by omega) (by omega)
    rw [hspr] at ks3
    have kI := c_Ints xs xs hl
    rw [decide_eq_true rfl] at kI
    have hyb : (((ys.length : Nat) : Int) != ((xs.length : Nat) : Int)) = false := by rw [hyl]; exact bne_self_eq_false _
    refine p_intro evOk [7, 9] Tryz.func3 rfl Tryz.call3 ?_
    repeat' first
     | refine v_seq ?_ | refine v_block ?_ | refine v_ret ?_ | refine v_skip ?_ | (refine v_exit ?_; repeat' first | refine xB_eq ?_ | refine xB_ne rfl ?_)
     | ((first | refine rgA fun K hK => ?_ | refine rgB rfl fun K hK => ?_ | refine rgC rfl fun K hK => ?_); simp only [go_sem,simprocAttr,d1,d3,d4,hsg,e6,e7,hyb,isl,bne_self_eq_false,hset_at,hset_hset])
     | (simp (disch := first | omega | rfl | (simp only [lnn]; omega)) only [spl])
     | (refine hK _ ?_; clear hK K)
     | (refine gdB_intro (fun h => ?_) (fun h => ?_) <;> simp only [go_sem,simprocAttr,h,d1,d3,d4,hsg,e6,e7,hyb,isl,bne_self_eq_false,hset_at,hset_hset] <;> (have h' := h; try simp only [bl] at h'))
     | (refine v_cond rfl (fun h => ?_) (fun h => ?_) <;> first | (exact Bool.noConfusion h) | (have h' := h; try simp only [bl] at h'))
     | (refine r_ret ?_; simp only [resL, resA, Tryz.f3, lk_cons', lk_nil', Nat.reduceBEq]; first | exact ⟨rfl, Sb.nil _, rfl⟩ | refine ⟨rfl, sbt ?_, rfl⟩ | refine ⟨rfl, Sb.of_eq ?_, rfl⟩)
     | (refine And.intro (by first | exact True.intro | omega | rfl | exact Nat.le_of_ble_eq_true rfl | (simp only [lnn]; omega) | exact List.forall_mem_nil _ | (refine List.forall_mem_cons.2 ⟨⟨_, rfl⟩, ?_⟩; repeat' first | exact List.forall_mem_nil _ | refine List.forall_mem_cons.2 ⟨⟨_, rfl⟩, ?_⟩)) ?_)
     | ((first | refine call_pure' (c_clickAwake) rfl ?_ | refine call_pure' (hsE) rfl ?_ | refine call_pure' (kw) rfl ?_ | refine call_pure' (c_Within _ _ _) rfl ?_ | refine call_pure' (c_CopyInts _ hl) rfl ?_ | refine call_pure' (kp) rfl ?_ | refine call_pure' (ks1) rfl ?_ | refine call_pure' (ks2) rfl ?_ | refine call_pure' (kc) rfl ?_ | refine call_pure' (kH) rfl ?_ | refine call_pure' (kE) rfl ?_ | refine call_pure' (kC) rfl ?_ | refine call_pure' (kF) rfl ?_ | refine call_pure' (kB) rfl ?_ | refine call_pure' (kS) rfl ?_ | refine call_pure' (kR) rfl ?_ | refine call_pure' (kY) rfl ?_ | refine call_pure' (ks3) rfl ?_ | refine call_pure' (kA) rfl ?_ | refine call_pure' (kI) rfl ?_); simp only [go_sem,simprocAttr,d1,d3,d4,hsg,e6,e7,hyb,isl,bne_self_eq_false,hset_at,hset_hset])
     | fail
    all_goals first | rfl | exact absurd trivial h'
end Go.Proofs.YtpdecefdhkhlnaaGreatDoor

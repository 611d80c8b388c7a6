import Derived.Test.YtabmhfmglhjmjaaGreatDoorE1
set_option maxRecDepth 100000
set_option maxHeartbeats 4000000
set_option linter.unusedSimpArgs false
set_option linter.unusedVariables false
set_option linter.unusedSectionVars false
namespace Go.Proofs.YtabmhfmglhjmjaaGreatDoor
open Go.Ab Go.RowKit
variable [Dr]
def lagE (a b : List Int) (limit : Int) : Int := firstE [signalErr a, signalErr b, unlessE (within limit 1 100) 2]
theorem lagE_zero {a b : List Int} {limit : Int} (h : lagE a b limit = 0) : signalErr a = 0 ∧ signalErr b = 0 ∧ 1 ≤ limit ∧ limit ≤ 100 := by
  have hf := firstE_zero h
  exact ⟨hf _ (by simp : signalErr a ∈ _), hf (signalErr b) (by simp), within_iff.1 (unlessE_zero (by decide) (hf (unlessE (within limit 1 100) 2) (by simp)))⟩
theorem m_sortLag (H : Hp) (nx r : Nat) (l : List (Int × Int)) (hb : ∀ p ∈ l, -100 ≤ p.1 ∧ p.1 ≤ 100) (h1 : 1 ≤ l.length) (h2 : l.length ≤ 1000000) (hr : H r = some (lgc l)) (K : AV → Hp → Nat → Prop)
    (hK : ∀ ys : List (Int × Int), ys.Perm l → (∀ (i j : Nat) x y, i < j → ys[i]? = some x → ys[j]? = some y → 0 ≤ lagCmp y x) → K (.tu []) (hset H r (some (lgc ys))) nx) :
    CallM Tryz.prog 88 H nx [.ls r 0 3 l.length, .fn (.func 89) [] []] K := by
  let d : List Lg := l.attachWith (fun p => -100 ≤ p.1 ∧ p.1 ≤ 100) hb
  have hdm : d.map (·.1) = l := List.attachWith_map_subtype_val hb
  have hdl : d.length = l.length := by rw [← hdm, List.length_map]
  have hfl : ∀ z : List Lg, (z.flatMap fun z => lgA z.1) = lgc (z.map (·.1)) := fun z => by simp [lgc, List.flatMap_map]
  have := m_sortK Tryz.sortLag (γ := Lg) 3 (fun w => run_agg tyOk tab27 w) (fun w => run_size tyOk tab27 w) Tryz.call88 (fun z => lgA z.1) (fun x y => lagCmp x.1 y.1) cmpI_swo 89 Tryz.call89 [] rfl (cmpA_of (@c_LagOf1 drS)) H nx r d
    (by omega) (by omega) (by rw [hr, hfl, hdm]) (fun _ _ => rfl) (fun _ _ => rfl) (fun _ _ => rfl) K (fun ys hp hst => by
      rw [hfl]
      refine hK _ (by rw [← hdm]; exact hp.map _) fun i j x y hij hx hy => ?_
      rw [List.getElem?_map, Option.map_eq_some_iff] at hx hy
      obtain ⟨x', hx', rfl⟩ := hx
      obtain ⟨y', hy', rfl⟩ := hy
      exact hst i j x' y' hij hx' hy')
  rw [hdl] at this
  exact this
theorem lagsTo_bound {a b : List Int} {limit : Int} {n : Nat} (hl : 1 ≤ limit ∧ limit ≤ 100) (hn : (n : Int) = 2 * limit + 1) : ∀ p ∈ lagsTo a b limit n, -100 ≤ p.1 ∧ p.1 ≤ 100 := by
  intro p hp
  simp only [lagsTo, List.mem_map, List.mem_range] at hp
  obtain ⟨i, hi, rfl⟩ := hp
  unfold lagAt
  dsimp only
  omega
theorem c_LagOf (a b : List Int) (limit best other : Int) (h : lagE a b limit = 0) (hok : LagOk (corr a b) limit best other) : Pure Tryz.prog 20 [isl a, isl b, iv limit] (.tu [.ag [iv best, iv (corr a b best), iv (corr a b best - other)], iv 0]) := by
  have hf := c_first [signalErr a, signalErr b, unlessE (within limit 1 100) 2] (len_lit rfl)
  change Pure _ _ _ (iv (lagE a b limit)) at hf
  rw [h] at hf
  obtain ⟨h1, h2, hl⟩ := lagE_zero h
  obtain ⟨ha, sa⟩ := signalErr_zero h1
  obtain ⟨hb, sb⟩ := signalErr_zero h2
  have la : Len a.length := by unfold Len; omega
  have lb : Len b.length := by unfold Len; omega
  have hcb := fun lag => corrTo_bound sa sb lag (n := a.length) (by omega)
  obtain ⟨N, hN⟩ : ∃ N : Nat, (N : Int) = 2 * limit + 1 := ⟨(2 * limit + 1).toNat, by omega⟩
  refine p_intro evOk [6, 9, 41] Tryz.func20 rfl Tryz.call20 ?_
  repeat' first
   | refine v_seq ?_ | refine v_block ?_ | refine v_ret ?_ | refine v_skip ?_ | (refine v_exit ?_; repeat' first | refine xB_eq ?_ | refine xB_ne rfl ?_)
   | ((first | refine rgA fun K hK => ?_ | refine rgB rfl fun K hK => ?_ | refine rgC rfl fun K hK => ?_); simp only [go_sem,simprocAttr,bne_self_eq_false])
   | (simp (disch := first | omega | rfl | (simp only [lnn]; omega)) only [spl])
   | (refine hK _ ?_; clear hK K)
   | (refine gdB_intro (fun h => ?_) (fun h => ?_) <;> simp only [go_sem,simprocAttr,h,bne_self_eq_false] <;> (have h' := h; try simp only [bl] at h'))
   | (refine v_cond rfl (fun h => ?_) (fun h => ?_) <;> first | (exact Bool.noConfusion h) | (have h' := h; try simp only [bl] at h'))
   | (refine r_ret ?_; simp only [resL, resA, Tryz.f20, lk_cons', lk_nil', Nat.reduceBEq]; first | exact ⟨rfl, Sb.nil _, rfl⟩ | refine ⟨rfl, sbt ?_, rfl⟩ | refine ⟨rfl, Sb.of_eq ?_, rfl⟩)
   | (refine And.intro (by first | exact True.intro | omega | rfl | exact Nat.le_of_ble_eq_true rfl | (simp only [lnn]; omega) | exact List.forall_mem_nil _ | (refine List.forall_mem_cons.2 ⟨⟨_, rfl⟩, ?_⟩; repeat' first | exact List.forall_mem_nil _ | refine List.forall_mem_cons.2 ⟨⟨_, rfl⟩, ?_⟩)) ?_)
   | ((first | refine call_pure' (c_signalErr _ la) rfl ?_ | refine call_pure' (c_signalErr _ lb) rfl ?_ | refine call_pure' (c_within _ _ _) rfl ?_ | refine call_pure' (c_unless _ _) rfl ?_ | refine call_pure' (hf) rfl ?_); simp only [go_sem,simprocAttr,bne_self_eq_false])
   | fail
  refine v_loop (T := Nat) (fun i => ⟨[(0, isl a), (1, isl b), (2, iv limit), (6, .lp 0 0), (9, .ls (i + 1) 0 3 i), (10, iv ((i : Int) - limit))], hls [(0, [iv 0, iv 0, iv 0]), (i + 1, lgc (lagsTo a b limit i))], i + 2, (57, 0, 0)⟩) (fun i => i ≤ N) (fun i => N - i) 0 (by omega) (ent_rows _ (by (repeat' first | exact trivial | refine ⟨?_, ?_⟩ | rfl)) rfl (by simp [rowsOk, hset', lgc, lagsTo]) (Nat.le_refl _)) ?_
  intro i hi
  have hll := lagsTo_len a b limit i
  have hcl := lgc_len (lagsTo a b limit i)
  rw [hll] at hcl
  have hco := lgc_one (lagsTo a b limit i)
  have htk : List.take (i * 3) (lgc (lagsTo a b limit i)) = lgc (lagsTo a b limit i) := List.take_of_length_le (Nat.le_of_eq hcl)
  have e1 : (0 == i + 1) = false := rfl
  have e2 : (i + 1 == 0) = false := rfl
  have e3 : (i + 2 == i + 1) = false := beq_ne (by omega)
  by_cases hi2 : i < N
  · have hd : decide ((i : Int) - limit ≤ limit) = true := decide_eq_true (by omega)
    have hc := c_correlation a b ((i : Int) - limit) ha hb sa sb (by omega)
    repeat' first
     | refine v_seq ?_ | refine v_block ?_ | refine v_ret ?_ | refine v_skip ?_ | (refine v_exit ?_; repeat' first | refine xB_eq ?_ | refine xB_ne rfl ?_)
     | ((first | refine rgA fun K hK => ?_ | refine rgB rfl fun K hK => ?_ | refine rgC rfl fun K hK => ?_); simp only [go_sem,simprocAttr,hd,hls,e1,e2,e3,hcl,hco,htk,hset_at,hset_hset])
     | (simp (disch := first | omega | rfl | (simp only [lnn]; omega)) only [spl])
     | (refine hK _ ?_; clear hK K)
     | (refine gdB_intro (fun h => ?_) (fun h => ?_) <;> simp only [go_sem,simprocAttr,h,hd,hls,e1,e2,e3,hcl,hco,htk,hset_at,hset_hset] <;> (have h' := h; try simp only [bl] at h'))
     | (refine v_cond rfl (fun h => ?_) (fun h => ?_) <;> first | (exact Bool.noConfusion h) | (have h' := h; try simp only [bl] at h'))
     | (refine r_ret ?_; simp only [resL, resA, Tryz.f20, lk_cons', lk_nil', Nat.reduceBEq]; first | exact ⟨rfl, Sb.nil _, rfl⟩ | refine ⟨rfl, sbt ?_, rfl⟩ | refine ⟨rfl, Sb.of_eq ?_, rfl⟩)
     | (refine And.intro (by first | exact True.intro | omega | rfl | exact Nat.le_of_ble_eq_true rfl | (simp only [lnn]; omega) | exact List.forall_mem_nil _ | (refine List.forall_mem_cons.2 ⟨⟨_, rfl⟩, ?_⟩; repeat' first | exact List.forall_mem_nil _ | refine List.forall_mem_cons.2 ⟨⟨_, rfl⟩, ?_⟩)) ?_)
     | ((first | refine call_pure' (hc) rfl ?_); simp only [go_sem,simprocAttr,hd,hls,e1,e2,e3,hcl,hco,htk,hset_at,hset_hset])
     | (simp only [htk, hco])
     | fail
    refine ⟨i + 1, ?_, by omega, by omega⟩
    rw [show ((i + 1 : Nat) : Int) - limit = (i : Int) - limit + 1 by omega, show i + 1 + 1 = i + 2 by omega, ← lagsTo_succ, lgc_snoc]
    exact ent_rows _ (by (repeat' first | exact trivial | refine ⟨?_, ?_⟩ | rfl)) rfl (by simp [rowsOk, hset', lagAt]; rfl) (Nat.le_refl _)
  · obtain rfl : i = N := by omega
    have hd : decide ((i : Int) - limit ≤ limit) = false := decide_eq_false (by omega)
    have hso := m_sortLag (hset (hset emp (i + 1) (some (lgc (lagsTo a b limit i)))) 0 (some [AV.v (.int .i64 0), AV.v (.int .i64 0), AV.v (.int .i64 0)])) (i + 2) (i + 1) (lagsTo a b limit i) (lagsTo_bound hl hN) (by omega) (by omega) (by rw [hset', e1]; exact hset_at _ _ _)
    rw [hll] at hso
    repeat' first
     | refine v_seq ?_ | refine v_block ?_ | refine v_ret ?_ | refine v_skip ?_ | (refine v_exit ?_; repeat' first | refine xB_eq ?_ | refine xB_ne rfl ?_)
     | ((first | refine rgA fun K hK => ?_ | refine rgB rfl fun K hK => ?_ | refine rgC rfl fun K hK => ?_); simp only [go_sem,simprocAttr,hd,hls,e1,e2,e3,hcl,hco,htk,hset_at,hset_hset])
     | (simp (disch := first | omega | rfl | (simp only [lnn]; omega)) only [spl])
     | (refine hK _ ?_; clear hK K)
     | (refine gdB_intro (fun h => ?_) (fun h => ?_) <;> simp only [go_sem,simprocAttr,h,hd,hls,e1,e2,e3,hcl,hco,htk,hset_at,hset_hset] <;> (have h' := h; try simp only [bl] at h'))
     | (refine v_cond rfl (fun h => ?_) (fun h => ?_) <;> first | (exact Bool.noConfusion h) | (have h' := h; try simp only [bl] at h'))
     | (refine r_ret ?_; simp only [resL, resA, Tryz.f20, lk_cons', lk_nil', Nat.reduceBEq]; first | exact ⟨rfl, Sb.nil _, rfl⟩ | refine ⟨rfl, sbt ?_, rfl⟩ | refine ⟨rfl, Sb.of_eq ?_, rfl⟩)
     | (refine And.intro (by first | exact True.intro | omega | rfl | exact Nat.le_of_ble_eq_true rfl | (simp only [lnn]; omega) | exact List.forall_mem_nil _ | (refine List.forall_mem_cons.2 ⟨⟨_, rfl⟩, ?_⟩; repeat' first | exact List.forall_mem_nil _ | refine List.forall_mem_cons.2 ⟨⟨_, rfl⟩, ?_⟩)) ?_)
     | (refine hso _ (fun ys hp hst => ?_); simp only [cmK, go_sem,simprocAttr,hset_at,hset_hset,e1,e2])
     | fail
    obtain ⟨x, y, r, rfl, hx, hxy⟩ := lagOk_of hN hl.1 hp hst
    obtain ⟨g1, g2⟩ := hxy.unique hok
    subst g1 g2
    have hlc : lgc (x :: y :: r) = iv x.1 :: iv x.2 :: iv 0 :: iv y.1 :: iv y.2 :: iv 0 :: lgc r := rfl
    rw [hlc, hx]
    have hcx := hcb x.1
    change -(200 * (32767 * 32767)) ≤ corr a b x.1 ∧ corr a b x.1 ≤ 200 * (32767 * 32767) at hcx
    have hcy : -(200 * (32767 * 32767)) ≤ y.2 ∧ y.2 ≤ 200 * (32767 * 32767) := by
      obtain ⟨l, _, _, _, h4⟩ := hok.some
      rw [← h4]
      exact hcb l
    repeat' first
     | refine v_seq ?_ | refine v_block ?_ | refine v_ret ?_ | refine v_skip ?_ | (refine v_exit ?_; repeat' first | refine xB_eq ?_ | refine xB_ne rfl ?_)
     | ((first | refine rgA fun K hK => ?_ | refine rgB rfl fun K hK => ?_ | refine rgC rfl fun K hK => ?_); simp only [go_sem,simprocAttr,hset_at,hset_hset,e1,e2,hls])
     | (simp (disch := first | omega | rfl | (simp only [lnn]; omega)) only [spl])
     | (refine hK _ ?_; clear hK K)
     | (refine gdB_intro (fun h => ?_) (fun h => ?_) <;> simp only [go_sem,simprocAttr,h,hset_at,hset_hset,e1,e2,hls] <;> (have h' := h; try simp only [bl] at h'))
     | (refine v_cond rfl (fun h => ?_) (fun h => ?_) <;> first | (exact Bool.noConfusion h) | (have h' := h; try simp only [bl] at h'))
     | (refine r_ret ?_; simp only [resL, resA, Tryz.f20, lk_cons', lk_nil', Nat.reduceBEq]; first | exact ⟨rfl, Sb.nil _, rfl⟩ | refine ⟨rfl, sbt ?_, rfl⟩ | refine ⟨rfl, Sb.of_eq ?_, rfl⟩)
     | (refine And.intro (by first | exact True.intro | omega | rfl | exact Nat.le_of_ble_eq_true rfl | (simp only [lnn]; omega) | exact List.forall_mem_nil _ | (refine List.forall_mem_cons.2 ⟨⟨_, rfl⟩, ?_⟩; repeat' first | exact List.forall_mem_nil _ | refine List.forall_mem_cons.2 ⟨⟨_, rfl⟩, ?_⟩)) ?_)
     | (simp only [go_sem,simprocAttr,hset_at,hset_hset,e1,e2])
     | fail
    have e4 : List.take 3 (splice (iv x.1 :: iv (corr a b x.1) :: iv 0 :: iv y.1 :: iv y.2 :: iv 0 :: lgc r) 2 [iv (corr a b x.1 - y.2)]) = [iv x.1, iv (corr a b x.1), iv (corr a b x.1 - y.2)] := rfl
    have e5 : ∀ p q s p' q' s' : AV, splice [p, q, s] 0 [p', q', s'] = [p', q', s'] := fun _ _ _ _ _ _ => rfl
    refine r_ret ?_
    simp only [resL, resA, Tryz.f20, go_sem,simprocAttr,hset_at,e4,e5,beq_self_eq_true]
    exact Sb.refl _
end Go.Proofs.YtabmhfmglhjmjaaGreatDoor

/- Parts of the proof, put together by a program. -/
import Derived.KernelRfl
import Derived.Test.YtabmhfmglhjmjaaGreatDoorUae
import Derived.Test.YtabmhfmglhjmjaaGreatDoorUak
import Derived.Test.YtabmhfmglhjmjaaGreatDoorUal
set_option maxRecDepth 100000
set_option maxHeartbeats 4000000
set_option linter.unusedSimpArgs false
set_option linter.unusedVariables false
set_option linter.unusedSectionVars false
namespace Go.Proofs.YtabmhfmglhjmjaaGreatDoor
open Go.Ab Go.RowKit
variable [Dr]
def lagE (a b : List Int) (limit : Int) : Int := firstE [signalErr a, signalErr b, unlessE (within limit 1 100) 2]
theorem lagE_zero {a b : List Int} {limit : Int} (h : lagE a b limit = 0) : signalErr a = 0 ∧ signalErr b = 0 ∧ 1 ≤ limit ∧ limit ≤ 100 := by
  have hf := firstE_zero h
  exact ⟨hf _ (by simp : signalErr a ∈ _), hf (signalErr b) (by simp), within_iff.1 (unlessE_zero (by decide) (hf (unlessE (within limit 1 100) 2) (by simp)))⟩
theorem m_sortLag (H : Hp) (nx r : Nat) (l : List (Int × Int)) (hb : ∀ p ∈ l, -100 ≤ p.1 ∧ p.1 ≤ 100) (h1 : 1 ≤ l.length) (h2 : l.length ≤ 1000000) (hr : H r = some (lgc l)) (K : AV → Hp → Nat → Prop)
    (hK : ∀ ys : List (Int × Int), ys.Perm l → (∀ (i j : Nat) x y, i < j → ys[i]? = some x → ys[j]? = some y → 0 ≤ lagCmp y x) → K (.tu []) (hset H r (some (lgc ys))) nx) :
    CallM Tryz.prog 88 H nx [.ls r 0 3 l.length, .fn (.func 89) [] []] K := by
  let d : List Lg := l.attachWith (fun p => -100 ≤ p.1 ∧ p.1 ≤ 100) hb
  have hdm : d.map (·.1) = l := List.attachWith_map_subtype_val hb
  have hdl : d.length = l.length := by rw [← hdm, List.length_map]
  have hfl : ∀ z : List Lg, (z.flatMap fun z => lgA z.1) = lgc (z.map (·.1)) := fun z => by simp [lgc, List.flatMap_map]
  have := m_sortK Tryz.sortLag (γ := Lg) 3 (fun w => run_agg tyOk tab27 w) (fun w => run_size tyOk tab27 w) Tryz.call88 (fun z => lgA z.1) (fun x y => lagCmp x.1 y.1) cmpI_swo 89 Tryz.call89 [] rfl (cmpA_of (@c_LagOf1 drS)) H nx r d
    (by omega) (by omega) (by rw [hr, hfl, hdm]) (fun _ _ => rfl) (fun _ _ => rfl) (fun _ _ => rfl) K (fun ys hp hst => by
      rw [hfl]
      refine hK _ (by rw [← hdm]; exact hp.map _) fun i j x y hij hx hy => ?_
      rw [List.getElem?_map, Option.map_eq_some_iff] at hx hy
      obtain ⟨x', hx', rfl⟩ := hx
      obtain ⟨y', hy', rfl⟩ := hy
      exact hst i j x' y' hij hx' hy')
  rw [hdl] at this
  exact this
theorem lagsTo_bound {a b : List Int} {limit : Int} {n : Nat} (hl : 1 ≤ limit ∧ limit ≤ 100) (hn : (n : Int) = 2 * limit + 1) : ∀ p ∈ lagsTo a b limit n, -100 ≤ p.1 ∧ p.1 ≤ 100 := by
  intro p hp
  simp only [lagsTo, List.mem_map, List.mem_range] at hp
  obtain ⟨i, hi, rfl⟩ := hp
  unfold lagAt
  dsimp only
  omega
theorem c_LagOf (a b : List Int) (limit best other : Int) (h : lagE a b limit = 0) (hok : LagOk (corr a b) limit best other) : Pure Tryz.prog 20 [isl a, isl b, iv limit] (.tu [.ag [iv best, iv (corr a b best), iv (corr a b best - other)], iv 0]) := by
  have hf := c_first [signalErr a, signalErr b, unlessE (within limit 1 100) 2] (len_lit rfl)
  change Pure _ _ _ (iv (lagE a b limit)) at hf
  rw [h] at hf
  obtain ⟨h1, h2, hl⟩ := lagE_zero h
  obtain ⟨ha, sa⟩ := signalErr_zero h1
  obtain ⟨hb, sb⟩ := signalErr_zero h2
  have la : Len a.length := by unfold Len; omega
  have lb : Len b.length := by unfold Len; omega
  have hcb := fun lag => corrTo_bound sa sb lag (n := a.length) (by omega)
  obtain ⟨N, hN⟩ : ∃ N : Nat, (N : Int) = 2 * limit + 1 := ⟨(2 * limit + 1).toNat, by omega⟩
  refine p_intro evOk [6, 9, 41] Tryz.func20 rfl Tryz.call20 ?_
  repeat' first
   | refine v_seq ?_ | refine v_block ?_ | refine v_ret ?_ | refine v_skip ?_ | (refine v_exit ?_; repeat' first | refine xB_eq ?_ | refine xB_ne rfl ?_)
   | ((first | refine rgA fun K hK => ?_ | refine rgB rfl fun K hK => ?_ | refine rgC rfl fun K hK => ?_); simp only [go_sem,simprocAttr,bne_self_eq_false])
   | (simp (disch := first | omega | rfl | (simp only [lnn]; omega)) only [spl])
   | (refine hK _ ?_; clear hK K)
   | (refine gdB_intro (fun h => ?_) (fun h => ?_) <;> simp only [go_sem,simprocAttr,h,bne_self_eq_false] <;> (have h' := h; try simp only [bl] at h'))
   | (refine v_cond rfl (fun h => ?_) (fun h => ?_) <;> first | (exact Bool.noConfusion h) | (have h' := h; try simp only [bl] at h'))
   | (refine r_ret ?_; simp only [resL, resA, Tryz.f20, lk_cons', lk_nil', Nat.reduceBEq]; first | exact ⟨rfl, Sb.nil _, rfl⟩ | refine ⟨rfl, sbt ?_, rfl⟩ | refine ⟨rfl, Sb.of_eq ?_, rfl⟩)
   | (refine And.intro (by first | exact True.intro | omega | rfl | exact Nat.le_of_ble_eq_true rfl | (simp only [lnn]; omega) | exact List.forall_mem_nil _ | (refine List.forall_mem_cons.2 ⟨⟨_, rfl⟩, ?_⟩; repeat' first | exact List.forall_mem_nil _ | refine List.forall_mem_cons.2 ⟨⟨_, rfl⟩, ?_⟩)) ?_)
   | ((first | refine call_pure' (c_signalErr _ la) rfl ?_ | refine call_pure' (c_signalErr _ lb) rfl ?_ | refine call_pure' (c_within _ _ _) rfl ?_ | refine call_pure' (c_unless _ _) rfl ?_ | refine call_pure' (hf) rfl ?_); simp only [go_sem,simprocAttr,bne_self_eq_false])
   | fail
  refine v_loop (T := Nat) (fun i => ⟨[(0, isl a), (1, isl b), (2, iv limit), (6, .lp 0 0), (9, .ls (i + 1) 0 3 i), (10, iv ((i : Int) - limit))], hls [(0, [iv 0, iv 0, iv 0]), (i + 1, lgc (lagsTo a b limit i))], i + 2, (57, 0, 0)⟩) (fun i => i ≤ N) (fun i => N - i) 0 (by omega) (ent_rows _ (by (repeat' first | exact trivial | refine ⟨?_, ?_⟩ | rfl)) rfl (by simp [rowsOk, hset', lgc, lagsTo]) (Nat.le_refl _)) ?_
  intro i hi
  have hll := lagsTo_len a b limit i
  have hcl := lgc_len (lagsTo a b limit i)
  rw [hll] at hcl
  have hco := lgc_one (lagsTo a b limit i)
  have htk : List.take (i * 3) (lgc (lagsTo a b limit i)) = lgc (lagsTo a b limit i) := List.take_of_length_le (Nat.le_of_eq hcl)
  have e1 : (0 == i + 1) = false := rfl
  have e2 : (i + 1 == 0) = false := rfl
  have e3 : (i + 2 == i + 1) = false := beq_ne (by omega)
  by_cases hi2 : i < N
  · have hd : decide ((i : Int) - limit ≤ limit) = true := decide_eq_true (by omega)
    have hc := c_correlation a b ((i : Int) - limit) ha hb sa sb (by omega)
    repeat' first
     | refine v_seq ?_ | refine v_block ?_ | refine v_ret ?_ | refine v_skip ?_ | (refine v_exit ?_; repeat' first | refine xB_eq ?_ | refine xB_ne rfl ?_)
     | ((first | refine rgA fun K hK => ?_ | refine rgB rfl fun K hK => ?_ | refine rgC rfl fun K hK => ?_); simp only [go_sem,simprocAttr,hd,hls,e1,e2,e3,hcl,hco,htk,hset_at,hset_hset])
     | (simp (disch := first | omega | rfl | (simp only [lnn]; omega)) only [spl])
     | (refine hK _ ?_; clear hK K)
     | (refine gdB_intro (fun h => ?_) (fun h => ?_) <;> simp only [go_sem,simprocAttr,h,hd,hls,e1,e2,e3,hcl,hco,htk,hset_at,hset_hset] <;> (have h' := h; try simp only [bl] at h'))
     | (refine v_cond rfl (fun h => ?_) (fun h => ?_) <;> first | (exact Bool.noConfusion h) | (have h' := h; try simp only [bl] at h'))
     | (refine r_ret ?_; simp only [resL, resA, Tryz.f20, lk_cons', lk_nil', Nat.reduceBEq]; first | exact ⟨rfl, Sb.nil _, rfl⟩ | refine ⟨rfl, sbt ?_, rfl⟩ | refine ⟨rfl, Sb.of_eq ?_, rfl⟩)
     | (refine And.intro (by first | exact True.intro | omega | rfl | exact Nat.le_of_ble_eq_true rfl | (simp only [lnn]; omega) | exact List.forall_mem_nil _ | (refine List.forall_mem_cons.2 ⟨⟨_, rfl⟩, ?_⟩; repeat' first | exact List.forall_mem_nil _ | refine List.forall_mem_cons.2 ⟨⟨_, rfl⟩, ?_⟩)) ?_)
     | ((first | refine call_pure' (hc) rfl ?_); simp only [go_sem,simprocAttr,hd,hls,e1,e2,e3,hcl,hco,htk,hset_at,hset_hset])
     | (simp only [htk, hco])
     | fail
    refine ⟨i + 1, ?_, by omega, by omega⟩
    rw [show ((i + 1 : Nat) : Int) - limit = (i : Int) - limit + 1 by omega, show i + 1 + 1 = i + 2 by omega, ← lagsTo_succ, lgc_snoc]
    exact ent_rows _ (by (repeat' first | exact trivial | refine ⟨?_, ?_⟩ | rfl)) rfl (by simp [rowsOk, hset', lagAt]; rfl) (Nat.le_refl _)
  · obtain rfl : i = N := by omega
    have hd : decide ((i : Int) - limit ≤ limit) = false := decide_eq_false (by omega)
    have hso := m_sortLag (hset (hset emp (i + 1) (some (lgc (lagsTo a b limit i)))) 0 (some [AV.v (.int .i64 0), AV.v (.int .i64 0), AV.v (.int .i64 0)])) (i + 2) (i + 1) (lagsTo a b limit i) (lagsTo_bound hl hN) (by omega) (by omega) (by rw [hset', e1]; exact hset_at _ _ _)
    rw [hll] at hso
    repeat' first
     | refine v_seq ?_ | refine v_block ?_ | refine v_ret ?_ | refine v_skip ?_ | (refine v_exit ?_; repeat' first | refine xB_eq ?_ | refine xB_ne rfl ?_)
     | ((first | refine rgA fun K hK => ?_ | refine rgB rfl fun K hK => ?_ | refine rgC rfl fun K hK => ?_); simp only [go_sem,simprocAttr,hd,hls,e1,e2,e3,hcl,hco,htk,hset_at,hset_hset])
     | (simp (disch := first | omega | rfl | (simp only [lnn]; omega)) only [spl])
     | (refine hK _ ?_; clear hK K)
     | (refine gdB_intro (fun h => ?_) (fun h => ?_) <;> simp only [go_sem,simprocAttr,h,hd,hls,e1,e2,e3,hcl,hco,htk,hset_at,hset_hset] <;> (have h' := h; try simp only [bl] at h'))
     | (refine v_cond rfl (fun h => ?_) (fun h => ?_) <;> first | (exact Bool.noConfusion h) | (have h' := h; try simp only [bl] at h'))
     | (refine r_ret ?_; simp only [resL, resA, Tryz.f20, lk_cons', lk_nil', Nat.reduceBEq]; first | exact ⟨rfl, Sb.nil _, rfl⟩ | refine ⟨rfl, sbt ?_, rfl⟩ | refine ⟨rfl, Sb.of_eq ?_, rfl⟩)
     | (refine And.intro (by first | exact True.intro | omega | rfl | exact Nat.le_of_ble_eq_true rfl | (simp only [lnn]; omega) | exact List.forall_mem_nil _ | (refine List.forall_mem_cons.2 ⟨⟨_, rfl⟩, ?_⟩; repeat' first | exact List.forall_mem_nil _ | refine List.forall_mem_cons.2 ⟨⟨_, rfl⟩, ?_⟩)) ?_)
     | (refine hso _ (fun ys hp hst => ?_); simp only [cmK, go_sem,simprocAttr,hset_at,hset_hset,e1,e2])
     | fail
    obtain ⟨x, y, r, rfl, hx, hxy⟩ := lagOk_of hN hl.1 hp hst
    obtain ⟨g1, g2⟩ := hxy.unique hok
    subst g1 g2
    have hlc : lgc (x :: y :: r) = iv x.1 :: iv x.2 :: iv 0 :: iv y.1 :: iv y.2 :: iv 0 :: lgc r := rfl
    rw [hlc, hx]
    have hcx := hcb x.1
    change -(200 * (32767 * 32767)) ≤ corr a b x.1 ∧ corr a b x.1 ≤ 200 * (32767 * 32767) at hcx
    have hcy : -(200 * (32767 * 32767)) ≤ y.2 ∧ y.2 ≤ 200 * (32767 * 32767) := by
      obtain ⟨l, _, _, _, h4⟩ := hok.some
      rw [← h4]
      exact hcb l
    repeat' first
     | refine v_seq ?_ | refine v_block ?_ | refine v_ret ?_ | refine v_skip ?_ | (refine v_exit ?_; repeat' first | refine xB_eq ?_ | refine xB_ne rfl ?_)
     | ((first | refine rgA fun K hK => ?_ | refine rgB rfl fun K hK => ?_ | refine rgC rfl fun K hK => ?_); simp only [go_sem,simprocAttr,hset_at,hset_hset,e1,e2,hls])
     | (simp (disch := first | omega | rfl | (simp only [lnn]; omega)) only [spl])
     | (refine hK _ ?_; clear hK K)
     | (refine gdB_intro (fun h => ?_) (fun h => ?_) <;> simp only [go_sem,simprocAttr,h,hset_at,hset_hset,e1,e2,hls] <;> (have h' := h; try simp only [bl] at h'))
     | (refine v_cond rfl (fun h => ?_) (fun h => ?_) <;> first | (exact Bool.noConfusion h) | (have h' := h; try simp only [bl] at h'))
     | (refine r_ret ?_; simp only [resL, resA, Tryz.f20, lk_cons', lk_nil', Nat.reduceBEq]; first | exact ⟨rfl, Sb.nil _, rfl⟩ | refine ⟨rfl, sbt ?_, rfl⟩ | refine ⟨rfl, Sb.of_eq ?_, rfl⟩)
     | (refine And.intro (by first | exact True.intro | omega | rfl | exact Nat.le_of_ble_eq_true rfl | (simp only [lnn]; omega) | exact List.forall_mem_nil _ | (refine List.forall_mem_cons.2 ⟨⟨_, rfl⟩, ?_⟩; repeat' first | exact List.forall_mem_nil _ | refine List.forall_mem_cons.2 ⟨⟨_, rfl⟩, ?_⟩)) ?_)
     | (simp only [go_sem,simprocAttr,hset_at,hset_hset,e1,e2])
     | fail
    have e4 : List.take 3 (splice (iv x.1 :: iv (corr a b x.1) :: iv 0 :: iv y.1 :: iv y.2 :: iv 0 :: lgc r) 2 [iv (corr a b x.1 - y.2)]) = [iv x.1, iv (corr a b x.1), iv (corr a b x.1 - y.2)] := rfl
    have e5 : ∀ p q s p' q' s' : AV, splice [p, q, s] 0 [p', q', s'] = [p', q', s'] := fun _ _ _ _ _ _ => rfl
    refine r_ret ?_
    simp only [resL, resA, Tryz.f20, go_sem,simprocAttr,hset_at,e4,e5,beq_self_eq_true]
    exact Sb.refl _
end Go.Proofs.YtabmhfmglhjmjaaGreatDoor
set_option maxRecDepth 100000
set_option maxHeartbeats 4000000
set_option linter.unusedSimpArgs false
set_option linter.unusedVariables false
set_option linter.unusedSectionVars false
namespace Go.Proofs.YtabmhfmglhjmjaaGreatDoor
open Go.Ab Go.RowKit
variable [Dr] [Lo]
theorem plc_at {l : List Pc} {i : Nat} {p : Pc} (h : l[i]? = some p) : ((plc l).drop (i * 3)).take 3 = [iv p.fr, iv p.so, iv p.lag] := by
  unfold plc
  rw [fm_drop (c := pcA) (fun _ => rfl)]
  obtain ⟨hi, rfl⟩ := List.getElem?_eq_some_iff.1 h
  rw [List.drop_eq_getElem_cons hi, List.flatMap_cons]
  rfl
end Go.Proofs.YtabmhfmglhjmjaaGreatDoor
set_option maxRecDepth 100000
set_option maxHeartbeats 4000000
set_option linter.unusedSimpArgs false
set_option linter.unusedVariables false
set_option linter.unusedSectionVars false
namespace Go.Proofs.YtabmhfmglhjmjaaGreatDoor
open Go.Ab Go.RowKit
variable [Dr] [Lo]
def ins1 (a : Int) : List Int → List Int
  | [] => [a]
  | b :: l => bif decide (a ≤ b) then a :: b :: l else b :: ins1 a l
def isort : List Int → List Int
  | [] => []
  | a :: l => ins1 a (isort l)
theorem ins1_perm (a : Int) : ∀ l, (ins1 a l).Perm (a :: l)
  | [] => List.Perm.refl _
  | b :: l => by
    unfold ins1
    cases decide (a ≤ b)
    · exact ((ins1_perm a l).cons b).trans (List.Perm.swap a b l)
    · exact List.Perm.refl _
theorem isort_perm : ∀ l, (isort l).Perm l
  | [] => List.Perm.refl _
  | a :: l => (ins1_perm a _).trans ((isort_perm l).cons a)
theorem ins1_pw (a : Int) : ∀ l, l.Pairwise (fun a b => a ≤ b) → (ins1 a l).Pairwise (fun a b => a ≤ b)
  | [], _ => by simp [ins1]
  | b :: l, h => by
    unfold ins1
    rw [List.pairwise_cons] at h
    by_cases hab : a ≤ b
    · rw [decide_eq_true hab, cond_true, List.pairwise_cons, List.pairwise_cons]
      refine ⟨fun x hx => ?_, h⟩
      rcases List.mem_cons.1 hx with rfl | hx
      · exact hab
      · exact Int.le_trans hab (h.1 x hx)
    · rw [decide_eq_false hab, cond_false, List.pairwise_cons]
      refine ⟨fun x hx => ?_, ins1_pw a l h.2⟩
      rcases List.mem_cons.1 ((ins1_perm a l).mem_iff.1 hx) with rfl | hx
      · omega
      · exact h.1 x hx
theorem isort_pw : ∀ l, (isort l).Pairwise (fun a b => a ≤ b)
  | [] => List.Pairwise.nil
  | a :: l => ins1_pw a _ (isort_pw l)
theorem sorted_isort (l : List Int) : sorted l = isort l :=
  List.Perm.eq_of_pairwise (le := fun a b => a ≤ b) (fun a b _ _ h1 h2 => by omega) (sorted_pw l) (isort_pw l) ((sorted_perm l).trans (isort_perm l).symm)
def midE (xs : List Int) : Int := (gi (isort xs) (((xs.length : Int) - 1) / 2) + gi (isort xs) ((xs.length : Int) / 2)) / 2
theorem mid_eq (xs : List Int) : mid xs = midE xs := by unfold mid midE; rw [sorted_isort]
def dvnE (ts : List Tf) (g k i : Nat) : Int := bif cov ts g k i then sumTo (fun q => ((smp (gt7 ts i) ((k * g + q : Nat) : Int) - midE (col ts ((k * g + q : Nat) : Int))).natAbs : Int)) g else -1
theorem dvn_eq (ts : List Tf) (g : Nat) : dvn ts g = dvnE ts g := by
  funext k i
  unfold dvn dvTo dvnE medAt
  simp only [mid_eq]
def nX : ByteArray := ⟨#[120]⟩
def nY : ByteArray := ⟨#[121]⟩
def nZ : ByteArray := ⟨#[122]⟩
def ts3 : List Tf := [⟨nX, 0, [5, 9, 5, 5]⟩, ⟨nY, 1, [0, 5, 5, 5, 9]⟩, ⟨nZ, 0, [5, 5, 5, 5]⟩]
def ts2 : List Tf := [⟨nX, 0, [5, 9, 5, 5]⟩, ⟨nY, 1, [0, 5, 5, 5, 9]⟩]
theorem x1 : tkE ts3 4 2 3 = 0 := by kernel_rfl
theorem x2 : tkE ts2 4 2 3 = 0 := by kernel_rfl
theorem x3 : medE ts3 4 = 0 := by kernel_rfl
theorem x12 : lagE [1, 2, 3] [0, 1, 2, 3] 2 = 0 := by kernel_rfl
theorem x13 : corr [1, 2, 3] [0, 1, 2, 3] 1 = 14 := by kernel_rfl
theorem x14 : LagOk (corr [1, 2, 3] [0, 1, 2, 3]) 2 1 8 := by
  have h : ∀ lag : Int, -2 ≤ lag → lag ≤ 2 → lag = -2 ∨ lag = -1 ∨ lag = 0 ∨ lag = 1 ∨ lag = 2 := fun lag _ _ => by omega
  have c1 : corr [1, 2, 3] [0, 1, 2, 3] (-2) = 0 := by kernel_rfl
  have c2 : corr [1, 2, 3] [0, 1, 2, 3] (-1) = 3 := by kernel_rfl
  have c3 : corr [1, 2, 3] [0, 1, 2, 3] 0 = 8 := by kernel_rfl
  have c4 : corr [1, 2, 3] [0, 1, 2, 3] 1 = 14 := by kernel_rfl
  have c5 : corr [1, 2, 3] [0, 1, 2, 3] 2 = 8 := by kernel_rfl
  refine ⟨by omega, fun lag h1 h2 hne => ?_, fun lag h1 h2 hne => ?_, ⟨0, by omega, by omega, by omega, c3⟩⟩
  · rcases h lag h1 h2 with rfl | rfl | rfl | rfl | rfl <;> first | exact absurd rfl hne | (left; omega)
  · rcases h lag h1 h2 with rfl | rfl | rfl | rfl | rfl <;> first | exact absurd rfl hne | omega
end Go.Proofs.YtabmhfmglhjmjaaGreatDoor
set_option maxRecDepth 100000
set_option maxHeartbeats 4000000
set_option linter.unusedSimpArgs false
set_option linter.unusedVariables false
set_option linter.unusedSectionVars false
namespace Go.Proofs.YtabmhfmglhjmjaaGreatDoor
open Go.Ab Go.RowKit
variable [Dr] [Lo]
theorem c_Texts (xs : List ByteArray) (hl : Len xs.length) : Pure Tryz.prog 27 [ssl xs, ssl xs] (AV.v (.bool true)) := by
  unfold Len at hl
  have hsl := strs_len xs
  have hnn : ((xs.length : Int) != (xs.length : Nat)) = false := by simp
  refine p_intro evOk [] Tryz.func27 rfl Tryz.call27 ?_
  repeat' first
   | refine v_seq ?_ | refine v_block ?_ | refine v_ret ?_ | refine v_skip ?_ | (refine v_exit ?_; repeat' first | refine xB_eq ?_ | refine xB_ne rfl ?_)
   | ((first | refine rgA fun K hK => ?_ | refine rgB rfl fun K hK => ?_ | refine rgC rfl fun K hK => ?_); simp only [go_sem,simprocAttr,hnn])
   | (simp (disch := first | omega | rfl | (simp only [lnn]; omega)) only [spl])
   | (refine hK _ ?_; clear hK K)
   | (refine gdB_intro (fun h => ?_) (fun h => ?_) <;> simp only [go_sem,simprocAttr,h,hnn] <;> (have h' := h; try simp only [bl] at h'))
   | (refine v_cond rfl (fun h => ?_) (fun h => ?_) <;> first | (exact Bool.noConfusion h) | (have h' := h; try simp only [bl] at h'))
   | (refine r_ret ?_; simp only [resL, resA, Tryz.f27, lk_cons', lk_nil', Nat.reduceBEq]; first | exact ⟨rfl, Sb.nil _, rfl⟩ | refine ⟨rfl, sbt ?_, rfl⟩ | refine ⟨rfl, Sb.of_eq ?_, rfl⟩)
   | (refine And.intro (by first | exact True.intro | omega | rfl | exact Nat.le_of_ble_eq_true rfl | (simp only [lnn]; omega) | exact List.forall_mem_nil _ | (refine List.forall_mem_cons.2 ⟨⟨_, rfl⟩, ?_⟩; repeat' first | exact List.forall_mem_nil _ | refine List.forall_mem_cons.2 ⟨⟨_, rfl⟩, ?_⟩)) ?_)
   | fail
  refine v_loop (T := Nat) (fun i => ⟨[(0, ssl xs), (1, ssl xs), (5, iv i)], emp, 0, (26, 0, 0)⟩) (fun i => i ≤ xs.length) (fun i => xs.length - i) 0 (by omega) (by (refine ent_eq ?_ rfl rfl rfl; repeat' first | exact trivial | refine ⟨?_, ?_⟩ | rfl)) ?_
  intro i hi
  by_cases hi2 : i < xs.length
  · have hd : decide ((i : Int) < xs.length) = true := decide_eq_true (by omega)
    have s1 : (strs xs)[((i : Nat) : Int).toNat * 1]? = some (.v (.string (gs7 xs i))) := by rw [Int.toNat_natCast, Nat.mul_one]; exact strs_at hi2
    have s1' : (strs xs)[((i : Nat) : Int).toNat]? = some (.v (.string (gs7 xs i))) := strs_at hi2
    repeat' first
     | refine v_seq ?_ | refine v_block ?_ | refine v_ret ?_ | refine v_skip ?_ | (refine v_exit ?_; repeat' first | refine xB_eq ?_ | refine xB_ne rfl ?_)
     | ((first | refine rgA fun K hK => ?_ | refine rgB rfl fun K hK => ?_ | refine rgC rfl fun K hK => ?_); simp only [go_sem,simprocAttr,hd,s1,s1',hsl])
     | (simp (disch := first | omega | rfl | (simp only [lnn]; omega)) only [spl])
     | (refine hK _ ?_; clear hK K)
     | (refine gdB_intro (fun h => ?_) (fun h => ?_) <;> simp only [go_sem,simprocAttr,h,hd,s1,s1',hsl] <;> (have h' := h; try simp only [bl] at h'))
     | (refine v_cond rfl (fun h => ?_) (fun h => ?_) <;> first | (exact Bool.noConfusion h) | (have h' := h; try simp only [bl] at h'))
     | (refine r_ret ?_; simp only [resL, resA, Tryz.f27, lk_cons', lk_nil', Nat.reduceBEq]; first | exact ⟨rfl, Sb.nil _, rfl⟩ | refine ⟨rfl, sbt ?_, rfl⟩ | refine ⟨rfl, Sb.of_eq ?_, rfl⟩)
     | (refine And.intro (by first | exact True.intro | omega | rfl | exact Nat.le_of_ble_eq_true rfl | (simp only [lnn]; omega) | exact List.forall_mem_nil _ | (refine List.forall_mem_cons.2 ⟨⟨_, rfl⟩, ?_⟩; repeat' first | exact List.forall_mem_nil _ | refine List.forall_mem_cons.2 ⟨⟨_, rfl⟩, ?_⟩)) ?_)
     | (simp only [go_sem,simprocAttr,s1,s1',hsl])
     | fail
    exact ⟨i + 1, by (refine ent_eq ?_ rfl rfl rfl; repeat' first | exact trivial | refine ⟨?_, ?_⟩ | rfl), by omega, by omega⟩
  · obtain rfl : i = xs.length := by omega
    have hd : decide ((xs.length : Int) < xs.length) = false := decide_eq_false (by omega)
    repeat' first
     | refine v_seq ?_ | refine v_block ?_ | refine v_ret ?_ | refine v_skip ?_ | (refine v_exit ?_; repeat' first | refine xB_eq ?_ | refine xB_ne rfl ?_)
     | ((first | refine rgA fun K hK => ?_ | refine rgB rfl fun K hK => ?_ | refine rgC rfl fun K hK => ?_); simp only [go_sem,simprocAttr,hd])
     | (simp (disch := first | omega | rfl | (simp only [lnn]; omega)) only [spl])
     | (refine hK _ ?_; clear hK K)
     | (refine gdB_intro (fun h => ?_) (fun h => ?_) <;> simp only [go_sem,simprocAttr,h,hd] <;> (have h' := h; try simp only [bl] at h'))
     | (refine v_cond rfl (fun h => ?_) (fun h => ?_) <;> first | (exact Bool.noConfusion h) | (have h' := h; try simp only [bl] at h'))
     | (refine r_ret ?_; simp only [resL, resA, Tryz.f27, lk_cons', lk_nil', Nat.reduceBEq]; first | exact ⟨rfl, Sb.nil _, rfl⟩ | refine ⟨rfl, sbt ?_, rfl⟩ | refine ⟨rfl, Sb.of_eq ?_, rfl⟩)
     | (refine And.intro (by first | exact True.intro | omega | rfl | exact Nat.le_of_ble_eq_true rfl | (simp only [lnn]; omega) | exact List.forall_mem_nil _ | (refine List.forall_mem_cons.2 ⟨⟨_, rfl⟩, ?_⟩; repeat' first | exact List.forall_mem_nil _ | refine List.forall_mem_cons.2 ⟨⟨_, rfl⟩, ?_⟩)) ?_)
     | fail
theorem c_Task : Pure Tryz.prog 82 [] (tkA ts3 4 2 3) := by
  refine p_intro evOk [0] Tryz.func82 rfl Tryz.call82 ?_
  repeat' first
   | refine v_seq ?_ | refine v_block ?_ | refine v_ret ?_ | refine v_skip ?_ | (refine v_exit ?_; repeat' first | refine xB_eq ?_ | refine xB_ne rfl ?_)
   | ((first | refine rgA fun K hK => ?_ | refine rgB rfl fun K hK => ?_ | refine rgC rfl fun K hK => ?_); simp only [go_sem,simprocAttr,hset_at])
   | (simp (disch := first | omega | rfl | (simp only [lnn]; omega)) only [spl])
   | (refine hK _ ?_; clear hK K)
   | (refine gdB_intro (fun h => ?_) (fun h => ?_) <;> simp only [go_sem,simprocAttr,h,hset_at] <;> (have h' := h; try simp only [bl] at h'))
   | (refine v_cond rfl (fun h => ?_) (fun h => ?_) <;> first | (exact Bool.noConfusion h) | (have h' := h; try simp only [bl] at h'))
   | (refine r_ret ?_; simp only [resL, resA, Tryz.f82, lk_cons', lk_nil', Nat.reduceBEq]; first | exact ⟨rfl, Sb.nil _, rfl⟩ | refine ⟨rfl, sbt ?_, rfl⟩ | refine ⟨rfl, Sb.of_eq ?_, rfl⟩)
   | (refine And.intro (by first | exact True.intro | omega | rfl | exact Nat.le_of_ble_eq_true rfl | (simp only [lnn]; omega) | exact List.forall_mem_nil _ | (refine List.forall_mem_cons.2 ⟨⟨_, rfl⟩, ?_⟩; repeat' first | exact List.forall_mem_nil _ | refine List.forall_mem_cons.2 ⟨⟨_, rfl⟩, ?_⟩)) ?_)
   | fail
  refine r_ret ?_
  simp only [resL, resA, Tryz.f82, go_sem,simprocAttr,hset_at,hset_hset]
  exact ⟨Nat.le_of_ble_eq_true rfl, rfl, Sb.of_eq rfl, rfl⟩
theorem y1 : cIx ts3 [nY, nX] 0 = 1 := by kernel_rfl
theorem y2 : cIx ts3 [nY, nX] 1 = 0 := by kernel_rfl
end Go.Proofs.YtabmhfmglhjmjaaGreatDoor
set_option maxRecDepth 100000
set_option maxHeartbeats 4000000
set_option linter.unusedSimpArgs false
set_option linter.unusedVariables false
set_option linter.unusedSectionVars false
namespace Go.Proofs.YtabmhfmglhjmjaaGreatDoor
open Go.Ab Go.RowKit
variable [Dr] [Lo]
theorem w7 : (List.range 2).map (fun k => (gt7 ts3 (ch7 (dvn ts3 2) 3 2 ts3.length (fun i => (gt7 ts3 i).nm) k)).nm) = [nZ, nZ] := by
  rw [dvn_eq]
  kernel_rfl
theorem w8 : total7 (dvn ts3 2) 3 2 ts3.length = 0 := by
  rw [dvn_eq]
  kernel_rfl
theorem c_joinShown : Pure Tryz.prog 61 [] (AV.v (.bool true)) := by
  have hl3 : Len ts3.length := len_lit rfl
  have hn3 : ∀ i, i < ts3.length → Len (gt7 ts3 i).nm.size ∧ Len (gt7 ts3 i).xs.length := fun i hi => by
    have : i = 0 ∨ i = 1 ∨ i = 2 := by have : i < 3 := hi; omega
    rcases this with rfl | rfl | rfl <;> exact ⟨len_lit rfl, len_lit rfl⟩
  have kT := c_Task
  have kL := c_LagOf [1, 2, 3] [0, 1, 2, 3] 2 1 8 x12 x14
  rw [x13] at kL
  obtain ⟨m3, o3, p3⟩ := c_open ts3 4 2 3 hl3 hn3
  obtain ⟨t3, rfl, g3⟩ := p3 x1
  rw [x1] at o3
  have kB := c_BestG ts3 4 2 3 2 2 t3 g3 o3
  rw [w7, w8] at kB
  have kX := c_Texts [nZ, nZ] (len_lit rfl)
  clear hl3 hn3 p3 t3 g3 o3
  unfold tkA at kT
  change Pure _ _ _ (.ag [.sl 3 3 (tcs ts3), iv 4, iv 2, iv 3]) at kT
  change Pure _ _ [.sl 1 3 [iv 1, iv 2, iv 3], .sl 1 4 [iv 0, iv 1, iv 2, iv 3], iv 2] (.tu [.ag [iv 1, iv 14, iv 6], iv 0]) at kL
  change Pure _ _ [.ag [.sl 3 3 (tcs ts3), iv 4, iv 2, iv 3]] (.tu [.sl 1 2 [.v (.string ⟨#[122]⟩), .v (.string ⟨#[122]⟩)], iv 0, iv 0]) at kB
  change Pure _ _ [.sl 1 2 [.v (.string ⟨#[122]⟩), .v (.string ⟨#[122]⟩)], .sl 1 2 [.v (.string ⟨#[122]⟩), .v (.string ⟨#[122]⟩)]] _ at kX
  refine p_intro evOk [4] Tryz.func61 rfl Tryz.call61 ?_
  repeat' first
   | refine v_seq ?_ | refine v_block ?_ | refine v_ret ?_ | refine v_skip ?_ | (refine v_exit ?_; repeat' first | refine xB_eq ?_ | refine xB_ne rfl ?_)
   | ((first | refine rgA fun K hK => ?_ | refine rgB rfl fun K hK => ?_ | refine rgC rfl fun K hK => ?_); simp only [go_sem,simprocAttr,hset_at,hset_hset])
   | (simp (disch := first | omega | rfl | (simp only [lnn]; omega)) only [spl])
   | (refine hK _ ?_; clear hK K)
   | (refine gdB_intro (fun h => ?_) (fun h => ?_) <;> simp only [go_sem,simprocAttr,h,hset_at,hset_hset] <;> (have h' := h; try simp only [bl] at h'))
   | (refine v_cond rfl (fun h => ?_) (fun h => ?_) <;> first | (exact Bool.noConfusion h) | (have h' := h; try simp only [bl] at h'))
   | (refine r_ret ?_; simp only [resL, resA, Tryz.f61, lk_cons', lk_nil', Nat.reduceBEq]; first | exact ⟨rfl, Sb.nil _, rfl⟩ | refine ⟨rfl, sbt ?_, rfl⟩ | refine ⟨rfl, Sb.of_eq ?_, rfl⟩)
   | (refine And.intro (by first | exact True.intro | omega | rfl | exact Nat.le_of_ble_eq_true rfl | (simp only [lnn]; omega) | exact List.forall_mem_nil _ | (refine List.forall_mem_cons.2 ⟨⟨_, rfl⟩, ?_⟩; repeat' first | exact List.forall_mem_nil _ | refine List.forall_mem_cons.2 ⟨⟨_, rfl⟩, ?_⟩)) ?_)
   | ((first | refine call_pure' (kT) rfl ?_ | refine call_pure' (kL) rfl ?_ | refine call_pure' (kB) rfl ?_ | refine call_pure' (kX) rfl ?_); simp only [go_sem,simprocAttr,hset_at,hset_hset])
   | fail
  all_goals first | rfl | exact absurd True.intro h'
end Go.Proofs.YtabmhfmglhjmjaaGreatDoor
set_option linter.unusedVariables false
set_option linter.unusedSimpArgs false
set_option linter.unusedSectionVars false
namespace Go.Proofs.YtabmhfmglhjmjaaGreatDoor
open Go.Ab
attribute [local instance] drS
def ByNm (ys : List Tf) : Prop := ys.Pairwise fun a b => nmLt a.nm b.nm = true
def byN (ts : List Tf) : List Tf := ts.mergeSort fun a b => !nmLt b.nm a.nm
theorem byN_perm (ts : List Tf) : (byN ts).Perm ts := List.mergeSort_perm _ _
theorem byN_len (ts : List Tf) : (byN ts).length = ts.length := (byN_perm ts).length_eq
def NmU (ts : List Tf) : Prop := ts.Pairwise fun a b => a.nm ≠ b.nm
theorem TfOk.nmU {ts : List Tf} (h : TfOk ts) : NmU ts := by
  unfold NmU
  rw [List.pairwise_iff_getElem]
  intro i j hi hj hij
  have := h.uniq j i hij hj
  rwa [gt7_eq hi, gt7_eq hj] at this
theorem nmU_perm {xs ys : List Tf} (hp : xs.Perm ys) (h : NmU ys) : NmU xs := (hp.pairwise_iff (fun {a b} h => h.symm)).2 h
theorem byNm_of {ys : List Tf} (hu : NmU ys) (h : ∀ (i j : Nat) x y, i < j → ys[i]? = some x → ys[j]? = some y → nmLt y.nm x.nm = false) : ByNm ys := by
  unfold ByNm NmU at *
  rw [List.pairwise_iff_getElem] at hu ⊢
  intro i j hi hj hij
  have h1 := h i j _ _ hij (List.getElem?_eq_getElem hi) (List.getElem?_eq_getElem hj)
  have h2 := hu i j hi hj hij
  cases h3 : nmLt ys[i].nm ys[j].nm
  · exact absurd (nmLt_tri h3 h1) h2
  · rfl
theorem byN_sorted {ts : List Tf} (h : NmU ts) : ByNm (byN ts) := by
  have h1 : (byN ts).Pairwise fun a b => (!nmLt b.nm a.nm) = true := List.pairwise_mergeSort (fun a b c h1 h2 => by
    simp only [Bool.not_eq_true'] at h1 h2 ⊢
    exact nmLt_ntrans h2 h1) (fun a b => by
    cases h1 : nmLt b.nm a.nm
    · rfl
    · rw [nmLt_asymm h1]; rfl) ts
  refine byNm_of (nmU_perm (byN_perm ts) h) fun i j x y hij hx hy => ?_
  rw [List.pairwise_iff_getElem] at h1
  obtain ⟨hi, rfl⟩ := List.getElem?_eq_some_iff.1 hx
  obtain ⟨hj, rfl⟩ := List.getElem?_eq_some_iff.1 hy
  have := h1 i j hi hj hij
  simpa using this
theorem byNm_eq {xs ys : List Tf} (hp : xs.Perm ys) (hx : ByNm xs) (hy : ByNm ys) : xs = ys := by
  unfold ByNm at hx hy
  refine List.Perm.eq_of_pairwise (fun a b _ _ h1 h2 => ?_) hx hy hp
  rw [nmLt_asymm h1] at h2
  cases h2
theorem byN_eq {ts ys : List Tf} (h : NmU ts) (hp : ys.Perm ts) (hy : ByNm ys) : ys = byN ts := byNm_eq (hp.trans (byN_perm ts).symm) hy (byN_sorted h)
theorem byN_mem {ts : List Tf} {t : Tf} : t ∈ byN ts ↔ t ∈ ts := (byN_perm ts).mem_iff
structure DoneOk (ts : List Tf) (done : Nat → Bool) (n : Nat) : Prop where
  mem : ∀ i, i < ts.length → (done i = true ↔ gt7 ts i ∈ (byN ts).take n)
structure Dg where
  nm : ByteArray
  lo : Int
  hi : Int
def Dg.cells (d : Dg) : List AV := [.v (.string d.nm), iv d.lo, iv d.hi]
def dcs (l : List Dg) : List AV := l.flatMap Dg.cells
theorem dcs_len (l : List Dg) : (dcs l).length = l.length * 3 := fm_len (c := Dg.cells) (fun _ => rfl) l
theorem dcs_plain : ∀ l : List Dg, plainL (dcs l) = true
  | [] => rfl
  | d :: l => by
    have h := dcs_plain l
    unfold dcs at h ⊢
    rw [List.flatMap_cons]
    simp only [Dg.cells, List.cons_append, List.nil_append, plainL, AV.plain, iv, h, Bool.and_self]
def gd7 (l : List Dg) (i : Nat) : Dg := l.getD i ⟨ByteArray.empty, 0, 0⟩
theorem gd7_eq {l : List Dg} {i : Nat} (h : i < l.length) : gd7 l i = l[i] := by simp [gd7, h]
theorem dcs_0 {l : List Dg} {i : Nat} (h : i < l.length) : (dcs l)[i * 3]? = some (.v (.string (gd7 l i).nm)) := by
  rw [gd7_eq h]; exact fm_get (c := Dg.cells) (k := 3) (fun _ => rfl) h (j := 0) (by omega)
theorem dcs_1 {l : List Dg} {i : Nat} (h : i < l.length) : (dcs l)[i * 3 + 1]? = some (iv (gd7 l i).lo) := by
  rw [gd7_eq h]; exact fm_get (c := Dg.cells) (k := 3) (fun _ => rfl) h (j := 1) (by omega)
theorem dcs_2 {l : List Dg} {i : Nat} (h : i < l.length) : (dcs l)[i * 3 + 2]? = some (iv (gd7 l i).hi) := by
  rw [gd7_eq h]; exact fm_get (c := Dg.cells) (k := 3) (fun _ => rfl) h (j := 2) (by omega)
theorem rev_ind {α : Type} {P : List α → Prop} (h0 : P []) (h1 : ∀ l t, P l → P (l ++ [t])) (l : List α) : P l := by
  have key : ∀ m : List α, P m.reverse := fun m => by
    induction m with
    | nil => exact h0
    | cons x m ih => rw [List.reverse_cons]; exact h1 _ _ ih
  have := key l.reverse
  rwa [List.reverse_reverse] at this
def stepD (nm : ByteArray) (p : Int) : List Dg → List Dg
  | [] => [⟨nm, p, p⟩]
  | r :: l => bif nmEq r.nm nm && r.hi == p - 1 then ⟨r.nm, r.lo, p⟩ :: l else ⟨nm, p, p⟩ :: r :: l
def badAt (t : Tf) (ms : List Int) (limit : Int) (p : Nat) : Bool := hasAt t (p : Nat) && !within (smp t (p : Nat) - gi ms (p : Nat)) (-limit) limit
def dmgTo (t : Tf) (ms : List Int) (limit : Int) (R : List Dg) : Nat → List Dg
  | 0 => R
  | p + 1 => bif badAt t ms limit p then stepD t.nm (p : Nat) (dmgTo t ms limit R p) else dmgTo t ms limit R p
def dmgR (ms : List Int) (limit : Int) (n : Nat) (order : List Tf) : List Dg := order.foldl (fun R t => dmgTo t ms limit R n) []
def dmgs (ts : List Tf) (limit : Int) (n : Nat) : List Dg := (dmgR (meds ts n) limit n (byN ts)).reverse
theorem dmgR_snoc (ms : List Int) (limit : Int) (n : Nat) (l : List Tf) (t : Tf) : dmgR ms limit n (l ++ [t]) = dmgTo t ms limit (dmgR ms limit n l) n := by simp [dmgR]
theorem stepD_len (nm : ByteArray) (p : Int) (R : List Dg) : (stepD nm p R).length ≤ R.length + 1 := by
  cases R with
  | nil => simp [stepD]
  | cons r l => rw [stepD]; cases nmEq r.nm nm && r.hi == p - 1 <;> simp
theorem dmgTo_len (t : Tf) (ms : List Int) (limit : Int) (R : List Dg) : ∀ n, (dmgTo t ms limit R n).length ≤ R.length + n
  | 0 => by simp [dmgTo]
  | n + 1 => by
    have ih := dmgTo_len t ms limit R n
    have := stepD_len t.nm (n : Nat) (dmgTo t ms limit R n)
    rw [dmgTo]
    cases badAt t ms limit n
    · rw [cond_false]; omega
    · rw [cond_true]; omega
theorem dmgR_len (ms : List Int) (limit : Int) (n : Nat) (l : List Tf) : (dmgR ms limit n l).length ≤ l.length * n := by
  refine rev_ind (P := fun l => (dmgR ms limit n l).length ≤ l.length * n) ?_ (fun l t ih => ?_) l
  · simp [dmgR]
  · skip
    have := dmgTo_len t ms limit (dmgR ms limit n l) n
    rw [dmgR_snoc, List.length_append, List.length_singleton, Nat.succ_mul]
    omega
theorem stepD_in {P : Dg → Prop} {nm : ByteArray} {p : Int} {R : List Dg} (h : ∀ d ∈ R, P d) (h1 : P ⟨nm, p, p⟩) (h2 : ∀ lo hi, P ⟨nm, lo, hi⟩ → P ⟨nm, lo, p⟩) : ∀ d ∈ stepD nm p R, P d := by
  cases R with
  | nil => intro d hd; simp [stepD] at hd; subst hd; exact h1
  | cons r l =>
    rw [stepD]
    cases hc : nmEq r.nm nm && r.hi == p - 1
    · intro d hd
      rw [cond_false] at hd
      rcases List.mem_cons.1 hd with rfl | hd
      · exact h1
      · exact h d hd
    · intro d hd
      rw [cond_true] at hd
      simp only [Bool.and_eq_true] at hc
      have e := nmEq_iff.1 hc.1
      rcases List.mem_cons.1 hd with rfl | hd
      · have := h r (by simp)
        obtain ⟨a, b, c⟩ := r
        dsimp only at e
        subst e
        exact h2 b c this
      · exact h d (by simp [hd])
theorem dmgTo_in {P : Dg → Prop} {t : Tf} {ms : List Int} {limit : Int} {R : List Dg} (h : ∀ d ∈ R, P d) : ∀ n : Nat, (∀ p : Nat, p < n → P ⟨t.nm, p, p⟩) → (∀ (p : Nat) lo hi, p < n → P ⟨t.nm, lo, hi⟩ → P ⟨t.nm, lo, p⟩) → ∀ d ∈ dmgTo t ms limit R n, P d
  | 0, _, _ => h
  | n + 1, h1, h2 => by
    have ih := dmgTo_in (t := t) (ms := ms) (limit := limit) h n (fun p hp => h1 p (by omega)) (fun p lo hi hp => h2 p lo hi (by omega))
    rw [dmgTo]
    cases badAt t ms limit n
    · exact ih
    · exact stepD_in ih (h1 n (by omega)) fun lo hi => h2 n lo hi (by omega)
theorem dmgR_names (ms : List Int) (limit : Int) (n : Nat) (l : List Tf) : ∀ d ∈ dmgR ms limit n l, ∃ t ∈ l, t.nm = d.nm := by
  refine rev_ind (P := fun l => ∀ d ∈ dmgR ms limit n l, ∃ t ∈ l, t.nm = d.nm) ?_ (fun l t ih => ?_) l
  · intro d hd; simp [dmgR] at hd
  · skip
    rw [dmgR_snoc]
    exact dmgTo_in (P := fun d => ∃ t' ∈ l ++ [t], t'.nm = d.nm) (fun d hd => by
      obtain ⟨t', h1, h2⟩ := ih d hd
      exact ⟨t', by simp [h1], h2⟩) n (fun p _ => ⟨t, by simp, rfl⟩) (fun p lo hi _ h => h)
end Go.Proofs.YtabmhfmglhjmjaaGreatDoor

import Derived.Test.YtabmhfmglhjmjaaGreatDoorE38a
import Derived.Test.YtabmhfmglhjmjaaGreatDoorAbF
import Derived.Test.YtabmhfmglhjmjaaGreatDoorE9
import Derived.Test.YtabmhfmglhjmjaaGreatDoorE10
set_option maxRecDepth 100000
set_option maxHeartbeats 4000000
set_option linter.unusedSimpArgs false
set_option linter.unusedVariables false
set_option linter.unusedSectionVars false
namespace Go.Proofs.YtabmhfmglhjmjaaGreatDoor
open Go.Ab Go.RowKit
variable [Dr]
def pvP (pp : List (List Int)) (k i : Nat) : Int := gi (gS pp k) (i : Nat)
def bfC (ts : List Tf) (G : Nat) (c : Int) (pp : List (List Int)) (k j n : Nat) : List Int := costsTo (devRow ts G k) (fun i => pvP pp k i + chg c i j) n
theorem bfC_succ (ts : List Tf) (G : Nat) (c : Int) (pp : List (List Int)) (k j i : Nat) : bfC ts G c pp k j (i + 1) = bif gi (devRow ts G k) i != -1 then bfC ts G c pp k j i ++ [pvP pp k i + chg c i j] else bfC ts G c pp k j i := rfl
abbrev bfCaps (ts : List Tf) (n g c : Int) (G m k j : Nat) (P : AV) : List AV := [.pt [tsl ts, iv n, iv g, iv c, .sl 1 m (devC ts G m)] 0, .pt [iv ((k + 1 : Nat) : Int)] 0, .pt [P] 0, .pt [iv j] 0]
def ysX (L : List Int) (m t : Nat) : Option (List AV) := bif decide (t ≤ m) then ysC L t else none
theorem ysX_le {L : List Int} {m t : Nat} {avs : List AV} (h : ysX L m t = some avs) : t ≤ m ∧ ysC L t = some avs := by
  unfold ysX at h
  by_cases e : t ≤ m
  · rw [decide_eq_true e] at h; exact ⟨e, h⟩
  · rw [decide_eq_false e] at h; cases h
theorem it_before (ts : List Tf) (n g c : Int) (G m k j : Nat) (pp : List (List Int)) (hc : 0 ≤ c ∧ c ≤ 1000000) (hT : ts.length ≤ 6) (hk : k + 1 < m) (hm : m ≤ 20) (hpl : k < pp.length) (hpl2 : pp.length ≤ 1000) (hrow : (gS pp k).length = ts.length)
    (hpb : ∀ i : Nat, i < ts.length → -1000000000 ≤ pvP pp k i ∧ pvP pp k i ≤ 1000000000) :
    IterC Tryz.prog 163 (bfCaps ts n g c G m k j (lsA pp)) (ysC (bfC ts G c pp k j ts.length)) (bfC ts G c pp k j ts.length).length := by
  have hdC := devC_len ts G m
  have hpC := lsC_len pp
  have hrl := devRow_len ts G k
  refine iter_intro evOk [37] Tryz.func163 rfl Tryz.call163 (fun y hy han => ?_)
  have hk1 : (((k + 1 : Nat) : Int) - 1) = (k : Nat) := by omega
  have b1 : (devC ts G m)[((k : Nat) : Int).toNat * 1]? = some (isl (devRow ts G k)) := by rw [Int.toNat_natCast, Nat.mul_one]; exact devC_at (by omega)
  have b1' : (devC ts G m)[((k : Nat) : Int).toNat]? = some (isl (devRow ts G k)) := devC_at (by omega)
  have p1 : (lsC pp)[((k : Nat) : Int).toNat * 1]? = some (isl (gS pp k)) := by rw [Int.toNat_natCast, Nat.mul_one]; exact lsC_at hpl
  have p1' : (lsC pp)[((k : Nat) : Int).toNat]? = some (isl (gS pp k)) := lsC_at hpl
  repeat' first
   | refine v_seq ?_ | refine v_block ?_ | refine v_ret ?_ | refine v_skip ?_ | (refine v_exit ?_; repeat' first | refine xB_eq ?_ | refine xB_ne rfl ?_)
   | ((first | refine v_region (evOk.withY y) (fun K hK => ?_) | refine v_draw' (evOk.withY y) rfl (fun K hK => ?_) | refine v_drawF (evOk.withY y) rfl rfl (fun K hK => ?_)); simp only [go_sem,simprocAttr,hk1,b1,b1',hdC])
   | (simp (disch := first | omega | rfl | (simp only [lnn]; omega)) only [spl])
   | (refine hK _ ?_; clear hK K)
   | (refine gdB_intro (fun h => ?_) (fun h => ?_) <;> simp only [go_sem,simprocAttr,h,hk1,b1,b1',hdC] <;> (have h' := h; try simp only [bl] at h'))
   | (refine v_cond rfl (fun h => ?_) (fun h => ?_) <;> first | (exact Bool.noConfusion h) | (have h' := h; try simp only [bl] at h'))
   | (refine r_ret ?_; simp only [resL, resA, Tryz.f163, lk_cons', lk_nil', Nat.reduceBEq]; first | exact ⟨rfl, Sb.nil _, rfl⟩ | refine ⟨rfl, sbt ?_, rfl⟩ | refine ⟨rfl, Sb.of_eq ?_, rfl⟩)
   | (refine And.intro (by first | exact True.intro | omega | rfl | exact Nat.le_of_ble_eq_true rfl | (simp only [lnn]; omega) | exact List.forall_mem_nil _ | (refine List.forall_mem_cons.2 ⟨⟨_, rfl⟩, ?_⟩; repeat' first | exact List.forall_mem_nil _ | refine List.forall_mem_cons.2 ⟨⟨_, rfl⟩, ?_⟩)) ?_)
   | (simp only [go_sem,simprocAttr,hk1,b1,b1',hdC])
   | fail
  all_goals try (exfalso; omega)
  refine v_loop (T := Nat) (fun i => ⟨[(0, .v (.func (.yield y.l) #[] #[])), (1, .pt [tsl ts, iv n, iv g, iv c, .sl 1 m (devC ts G m)] 0), (2, .pt [iv ((k + 1 : Nat) : Int)] 0), (3, .pt [lsA pp] 0), (4, .pt [iv j] 0), (13, isl (devRow ts G k)), (14, iv (devRow ts G k).length), (15, iv i)], emp, 0, (41, 0, (bfC ts G c pp k j i).length)⟩) (fun i => i ≤ ts.length) (fun i => ts.length - i) 0 (by omega) ?_ ?_
  · refine ent_eq ?_ rfl rfl rfl
    (repeat' first | exact trivial | refine ⟨?_, ?_⟩ | rfl | (refine congrArg (fun z => some (AV.v (Value.int .i64 z))) ?_; omega))
  intro i hi
  have hsu := bfC_succ ts G c pp k j i
  by_cases hi2 : i < ts.length
  · have hd : decide ((i : Int) < (devRow ts G k).length) = true := decide_eq_true (by omega)
    have hcb := chg_bound hc.1 i j
    have hpi := hpb i hi2
    have kc := c_change ts n g c G m i j
    unfold tkX at kc
    have hpg : gi (gS pp k) (i : Nat) = pvP pp k i := rfl
    cases hz : gi (devRow ts G k) i != -1
    · rw [hz, cond_false] at hsu
      repeat' first
       | refine v_seq ?_ | refine v_block ?_ | refine v_ret ?_ | refine v_skip ?_ | (refine v_exit ?_; repeat' first | refine xB_eq ?_ | refine xB_ne rfl ?_)
       | ((first | refine v_region (evOk.withY y) (fun K hK => ?_) | refine v_draw' (evOk.withY y) rfl (fun K hK => ?_) | refine v_drawF (evOk.withY y) rfl rfl (fun K hK => ?_)); simp only [go_sem,simprocAttr,hd,hz])
       | (simp (disch := first | omega | rfl | (simp only [lnn]; omega)) only [spl])
       | (refine hK _ ?_; clear hK K)
       | (refine gdB_intro (fun h => ?_) (fun h => ?_) <;> simp only [go_sem,simprocAttr,h,hd,hz] <;> (have h' := h; try simp only [bl] at h'))
       | (refine v_cond rfl (fun h => ?_) (fun h => ?_) <;> first | (exact Bool.noConfusion h) | (have h' := h; try simp only [bl] at h'))
       | (refine r_ret ?_; simp only [resL, resA, Tryz.f163, lk_cons', lk_nil', Nat.reduceBEq]; first | exact ⟨rfl, Sb.nil _, rfl⟩ | refine ⟨rfl, sbt ?_, rfl⟩ | refine ⟨rfl, Sb.of_eq ?_, rfl⟩)
       | (refine And.intro (by first | exact True.intro | omega | rfl | exact Nat.le_of_ble_eq_true rfl | (simp only [lnn]; omega) | exact List.forall_mem_nil _ | (refine List.forall_mem_cons.2 ⟨⟨_, rfl⟩, ?_⟩; repeat' first | exact List.forall_mem_nil _ | refine List.forall_mem_cons.2 ⟨⟨_, rfl⟩, ?_⟩)) ?_)
       | fail
      refine ⟨i + 1, ?_, by omega, by omega⟩
      rw [hsu]
      refine ent_eq ?_ rfl rfl rfl
      (repeat' first | exact trivial | refine ⟨?_, ?_⟩ | rfl | (refine congrArg (fun z => some (AV.v (Value.int .i64 z))) ?_; omega))
    · have hat := costsTo_at (f := fun i => pvP pp k i + chg c i j) (n := ts.length) hi2 hz
      rw [hz, cond_true] at hsu
      repeat' first
       | refine v_seq ?_ | refine v_block ?_ | refine v_ret ?_ | refine v_skip ?_ | (refine v_exit ?_; repeat' first | refine xB_eq ?_ | refine xB_ne rfl ?_)
       | ((first | refine v_region (evOk.withY y) (fun K hK => ?_) | refine v_draw' (evOk.withY y) rfl (fun K hK => ?_) | refine v_drawF (evOk.withY y) rfl rfl (fun K hK => ?_)); simp only [go_sem,simprocAttr,hd,hz,han,hk1,hpC,p1,p1',hpg,hrow])
       | (simp (disch := first | omega | rfl | (simp only [lnn]; omega)) only [spl])
       | (refine hK _ ?_; clear hK K)
       | (refine gdB_intro (fun h => ?_) (fun h => ?_) <;> simp only [go_sem,simprocAttr,h,hd,hz,han,hk1,hpC,p1,p1',hpg,hrow] <;> (have h' := h; try simp only [bl] at h'))
       | (refine v_cond rfl (fun h => ?_) (fun h => ?_) <;> first | (exact Bool.noConfusion h) | (have h' := h; try simp only [bl] at h'))
       | (refine r_ret ?_; simp only [resL, resA, Tryz.f163, lk_cons', lk_nil', Nat.reduceBEq]; first | exact ⟨rfl, Sb.nil _, rfl⟩ | refine ⟨rfl, sbt ?_, rfl⟩ | refine ⟨rfl, Sb.of_eq ?_, rfl⟩)
       | (refine And.intro (by first | exact True.intro | omega | rfl | exact Nat.le_of_ble_eq_true rfl | (simp only [lnn]; omega) | exact List.forall_mem_nil _ | (refine List.forall_mem_cons.2 ⟨⟨_, rfl⟩, ?_⟩; repeat' first | exact List.forall_mem_nil _ | refine List.forall_mem_cons.2 ⟨⟨_, rfl⟩, ?_⟩)) ?_)
       | ((first | refine call_pure' (kc) rfl ?_); simp only [go_sem,simprocAttr,hd,hz,han,hk1,hpC,p1,p1',hpg,hrow])
       | (refine And.intro (by rw [hy]; unfold ysC bfC; rw [hat]; rfl) ?_)
       | (simp only [go_sem,simprocAttr,hk1,p1,p1',hpC,hpg,hrow])
       | fail
      all_goals try (exfalso; omega)
      refine ⟨i + 1, ?_, by omega, by omega⟩
      rw [hsu, List.length_append, List.length_singleton]
      refine ent_eq ?_ rfl rfl rfl
      (repeat' first | exact trivial | refine ⟨?_, ?_⟩ | rfl | (refine congrArg (fun z => some (AV.v (Value.int .i64 z))) ?_; omega))
  · obtain rfl : i = ts.length := by omega
    have hd : decide ((ts.length : Int) < (devRow ts G k).length) = false := decide_eq_false (by omega)
    repeat' first
     | refine v_seq ?_ | refine v_block ?_ | refine v_ret ?_ | refine v_skip ?_ | (refine v_exit ?_; repeat' first | refine xB_eq ?_ | refine xB_ne rfl ?_)
     | ((first | refine v_region (evOk.withY y) (fun K hK => ?_) | refine v_draw' (evOk.withY y) rfl (fun K hK => ?_) | refine v_drawF (evOk.withY y) rfl rfl (fun K hK => ?_)); simp only [go_sem,simprocAttr,hd])
     | (simp (disch := first | omega | rfl | (simp only [lnn]; omega)) only [spl])
     | (refine hK _ ?_; clear hK K)
     | (refine gdB_intro (fun h => ?_) (fun h => ?_) <;> simp only [go_sem,simprocAttr,h,hd] <;> (have h' := h; try simp only [bl] at h'))
     | (refine v_cond rfl (fun h => ?_) (fun h => ?_) <;> first | (exact Bool.noConfusion h) | (have h' := h; try simp only [bl] at h'))
     | (refine r_ret ?_; simp only [resL, resA, Tryz.f163, lk_cons', lk_nil', Nat.reduceBEq]; first | exact ⟨rfl, Sb.nil _, rfl⟩ | refine ⟨rfl, sbt ?_, rfl⟩ | refine ⟨rfl, Sb.of_eq ?_, rfl⟩)
     | (refine And.intro (by first | exact True.intro | omega | rfl | exact Nat.le_of_ble_eq_true rfl | (simp only [lnn]; omega) | exact List.forall_mem_nil _ | (refine List.forall_mem_cons.2 ⟨⟨_, rfl⟩, ?_⟩; repeat' first | exact List.forall_mem_nil _ | refine List.forall_mem_cons.2 ⟨⟨_, rfl⟩, ?_⟩)) ?_)
     | fail
    exact True.intro
theorem it_beforeX (ts : List Tf) (n g c : Int) (G m k j q : Nat) (pp : List (List Int)) (hq : q < (bfC ts G c pp k j ts.length).length) (hc : 0 ≤ c ∧ c ≤ 1000000) (hT : ts.length ≤ 6) (hk : k + 1 < m) (hm : m ≤ 20) (hpl : k < pp.length) (hpl2 : pp.length ≤ 1000) (hrow : (gS pp k).length = ts.length)
    (hpb : ∀ i : Nat, i < ts.length → -1000000000 ≤ pvP pp k i ∧ pvP pp k i ≤ 1000000000) :
    IterA Tryz.prog 163 (bfCaps ts n g c G m k j (lsA pp)) (ysX (bfC ts G c pp k j ts.length) q) (fun t => t != q) (q + 1) := by
  have hdC := devC_len ts G m
  have hpC := lsC_len pp
  have hrl := devRow_len ts G k
  refine iter_intro evOk [37] Tryz.func163 rfl Tryz.call163 (fun y hy han => ?_)
  have hk1 : (((k + 1 : Nat) : Int) - 1) = (k : Nat) := by omega
  have b1 : (devC ts G m)[((k : Nat) : Int).toNat * 1]? = some (isl (devRow ts G k)) := by rw [Int.toNat_natCast, Nat.mul_one]; exact devC_at (by omega)
  have b1' : (devC ts G m)[((k : Nat) : Int).toNat]? = some (isl (devRow ts G k)) := devC_at (by omega)
  have p1 : (lsC pp)[((k : Nat) : Int).toNat * 1]? = some (isl (gS pp k)) := by rw [Int.toNat_natCast, Nat.mul_one]; exact lsC_at hpl
  have p1' : (lsC pp)[((k : Nat) : Int).toNat]? = some (isl (gS pp k)) := lsC_at hpl
  repeat' first
   | refine v_seq ?_ | refine v_block ?_ | refine v_ret ?_ | refine v_skip ?_ | (refine v_exit ?_; repeat' first | refine xB_eq ?_ | refine xB_ne rfl ?_)
   | ((first | refine v_region (evOk.withY y) (fun K hK => ?_) | refine v_draw' (evOk.withY y) rfl (fun K hK => ?_) | refine v_drawF (evOk.withY y) rfl rfl (fun K hK => ?_)); simp only [go_sem,simprocAttr,hk1,b1,b1',hdC])
   | (simp (disch := first | omega | rfl | (simp only [lnn]; omega)) only [spl])
   | (refine hK _ ?_; clear hK K)
   | (refine gdB_intro (fun h => ?_) (fun h => ?_) <;> simp only [go_sem,simprocAttr,h,hk1,b1,b1',hdC] <;> (have h' := h; try simp only [bl] at h'))
   | (refine v_cond rfl (fun h => ?_) (fun h => ?_) <;> first | (exact Bool.noConfusion h) | (have h' := h; try simp only [bl] at h'))
   | (refine r_ret ?_; simp only [resL, resA, Tryz.f163, lk_cons', lk_nil', Nat.reduceBEq]; first | exact ⟨rfl, Sb.nil _, rfl⟩ | refine ⟨rfl, sbt ?_, rfl⟩ | refine ⟨rfl, Sb.of_eq ?_, rfl⟩)
   | (refine And.intro (by first | exact True.intro | omega | rfl | exact Nat.le_of_ble_eq_true rfl | (simp only [lnn]; omega) | exact List.forall_mem_nil _ | (refine List.forall_mem_cons.2 ⟨⟨_, rfl⟩, ?_⟩; repeat' first | exact List.forall_mem_nil _ | refine List.forall_mem_cons.2 ⟨⟨_, rfl⟩, ?_⟩)) ?_)
   | (simp only [go_sem,simprocAttr,hk1,b1,b1',hdC])
   | fail
  all_goals try (exfalso; omega)
  refine v_loop (T := Nat) (fun i => ⟨[(0, .v (.func (.yield y.l) #[] #[])), (1, .pt [tsl ts, iv n, iv g, iv c, .sl 1 m (devC ts G m)] 0), (2, .pt [iv ((k + 1 : Nat) : Int)] 0), (3, .pt [lsA pp] 0), (4, .pt [iv j] 0), (13, isl (devRow ts G k)), (14, iv (devRow ts G k).length), (15, iv i)], emp, 0, (41, 0, (bfC ts G c pp k j i).length)⟩) (fun i => i ≤ ts.length ∧ (bfC ts G c pp k j i).length ≤ q) (fun i => ts.length - i) 0 ⟨by omega, Nat.zero_le _⟩ ?_ ?_
  · refine ent_eq ?_ rfl rfl rfl
    (repeat' first | exact trivial | refine ⟨?_, ?_⟩ | rfl | (refine congrArg (fun z => some (AV.v (Value.int .i64 z))) ?_; omega))
  rintro i ⟨hi, hiq⟩
  have hsu := bfC_succ ts G c pp k j i
  by_cases hi2 : i < ts.length
  · have hd : decide ((i : Int) < (devRow ts G k).length) = true := decide_eq_true (by omega)
    have hcb := chg_bound hc.1 i j
    have hpi := hpb i hi2
    have kc := c_change ts n g c G m i j
    unfold tkX at kc
    have hpg : gi (gS pp k) (i : Nat) = pvP pp k i := rfl
    cases hz : gi (devRow ts G k) i != -1
    · rw [hz, cond_false] at hsu
      repeat' first
       | refine v_seq ?_ | refine v_block ?_ | refine v_ret ?_ | refine v_skip ?_ | (refine v_exit ?_; repeat' first | refine xB_eq ?_ | refine xB_ne rfl ?_)
       | ((first | refine v_region (evOk.withY y) (fun K hK => ?_) | refine v_draw' (evOk.withY y) rfl (fun K hK => ?_) | refine v_drawF (evOk.withY y) rfl rfl (fun K hK => ?_)); simp only [go_sem,simprocAttr,hd,hz])
       | (simp (disch := first | omega | rfl | (simp only [lnn]; omega)) only [spl])
       | (refine hK _ ?_; clear hK K)
       | (refine gdB_intro (fun h => ?_) (fun h => ?_) <;> simp only [go_sem,simprocAttr,h,hd,hz] <;> (have h' := h; try simp only [bl] at h'))
       | (refine v_cond rfl (fun h => ?_) (fun h => ?_) <;> first | (exact Bool.noConfusion h) | (have h' := h; try simp only [bl] at h'))
       | (refine r_ret ?_; simp only [resL, resA, Tryz.f163, lk_cons', lk_nil', Nat.reduceBEq]; first | exact ⟨rfl, Sb.nil _, rfl⟩ | refine ⟨rfl, sbt ?_, rfl⟩ | refine ⟨rfl, Sb.of_eq ?_, rfl⟩)
       | (refine And.intro (by first | exact True.intro | omega | rfl | exact Nat.le_of_ble_eq_true rfl | (simp only [lnn]; omega) | exact List.forall_mem_nil _ | (refine List.forall_mem_cons.2 ⟨⟨_, rfl⟩, ?_⟩; repeat' first | exact List.forall_mem_nil _ | refine List.forall_mem_cons.2 ⟨⟨_, rfl⟩, ?_⟩)) ?_)
       | fail
      refine ⟨i + 1, ?_, ⟨by omega, by rw [hsu]; exact hiq⟩, by omega⟩
      rw [hsu]
      refine ent_eq ?_ rfl rfl rfl
      (repeat' first | exact trivial | refine ⟨?_, ?_⟩ | rfl | (refine congrArg (fun z => some (AV.v (Value.int .i64 z))) ?_; omega))
    · have hat := costsTo_at (f := fun i => pvP pp k i + chg c i j) (n := ts.length) hi2 hz
      rw [hz, cond_true] at hsu
      by_cases hqe : (bfC ts G c pp k j i).length = q
      · have hne : ((bfC ts G c pp k j i).length != q) = false := by simpa using hqe
        repeat' first
         | refine v_seq ?_ | refine v_block ?_ | refine v_ret ?_ | refine v_skip ?_ | (refine v_exit ?_; repeat' first | refine xB_eq ?_ | refine xB_ne rfl ?_)
         | ((first | refine v_region (evOk.withY y) (fun K hK => ?_) | refine v_draw' (evOk.withY y) rfl (fun K hK => ?_) | refine v_drawF (evOk.withY y) rfl rfl (fun K hK => ?_)); simp only [go_sem,simprocAttr,hd,hz,han,hk1,hpC,p1,p1',hpg,hrow,hne])
         | (simp (disch := first | omega | rfl | (simp only [lnn]; omega)) only [spl])
         | (refine hK _ ?_; clear hK K)
         | (refine gdB_intro (fun h => ?_) (fun h => ?_) <;> simp only [go_sem,simprocAttr,h,hd,hz,han,hk1,hpC,p1,p1',hpg,hrow,hne] <;> (have h' := h; try simp only [bl] at h'))
         | (refine v_cond rfl (fun h => ?_) (fun h => ?_) <;> first | (exact Bool.noConfusion h) | (have h' := h; try simp only [bl] at h'))
         | (refine r_ret ?_; simp only [resL, resA, Tryz.f163, lk_cons', lk_nil', Nat.reduceBEq]; first | exact ⟨rfl, Sb.nil _, rfl⟩ | refine ⟨rfl, sbt ?_, rfl⟩ | refine ⟨rfl, Sb.of_eq ?_, rfl⟩)
         | (refine And.intro (by first | exact True.intro | omega | rfl | exact Nat.le_of_ble_eq_true rfl | (simp only [lnn]; omega) | exact List.forall_mem_nil _ | (refine List.forall_mem_cons.2 ⟨⟨_, rfl⟩, ?_⟩; repeat' first | exact List.forall_mem_nil _ | refine List.forall_mem_cons.2 ⟨⟨_, rfl⟩, ?_⟩)) ?_)
         | ((first | refine call_pure' (kc) rfl ?_); simp only [go_sem,simprocAttr,hd,hz,han,hk1,hpC,p1,p1',hpg,hrow,hne])
         | (refine And.intro (by rw [hy]; unfold ysX ysC; rw [decide_eq_true hiq, cond_true]; unfold bfC; rw [hat]; rfl) ?_)
         | (simp only [go_sem,simprocAttr,hk1,p1,p1',hpC,hpg,hrow,hne])
         | fail
        all_goals try (exfalso; omega)
        all_goals first | exact True.intro | (show (bfC ts G c pp k j i).length + 1 = q + 1; rw [hqe]) | (rw [hqe])
      · have hne : ((bfC ts G c pp k j i).length != q) = true := by simpa using hqe
        repeat' first
         | refine v_seq ?_ | refine v_block ?_ | refine v_ret ?_ | refine v_skip ?_ | (refine v_exit ?_; repeat' first | refine xB_eq ?_ | refine xB_ne rfl ?_)
         | ((first | refine v_region (evOk.withY y) (fun K hK => ?_) | refine v_draw' (evOk.withY y) rfl (fun K hK => ?_) | refine v_drawF (evOk.withY y) rfl rfl (fun K hK => ?_)); simp only [go_sem,simprocAttr,hd,hz,han,hk1,hpC,p1,p1',hpg,hrow,hne])
         | (simp (disch := first | omega | rfl | (simp only [lnn]; omega)) only [spl])
         | (refine hK _ ?_; clear hK K)
         | (refine gdB_intro (fun h => ?_) (fun h => ?_) <;> simp only [go_sem,simprocAttr,h,hd,hz,han,hk1,hpC,p1,p1',hpg,hrow,hne] <;> (have h' := h; try simp only [bl] at h'))
         | (refine v_cond rfl (fun h => ?_) (fun h => ?_) <;> first | (exact Bool.noConfusion h) | (have h' := h; try simp only [bl] at h'))
         | (refine r_ret ?_; simp only [resL, resA, Tryz.f163, lk_cons', lk_nil', Nat.reduceBEq]; first | exact ⟨rfl, Sb.nil _, rfl⟩ | refine ⟨rfl, sbt ?_, rfl⟩ | refine ⟨rfl, Sb.of_eq ?_, rfl⟩)
         | (refine And.intro (by first | exact True.intro | omega | rfl | exact Nat.le_of_ble_eq_true rfl | (simp only [lnn]; omega) | exact List.forall_mem_nil _ | (refine List.forall_mem_cons.2 ⟨⟨_, rfl⟩, ?_⟩; repeat' first | exact List.forall_mem_nil _ | refine List.forall_mem_cons.2 ⟨⟨_, rfl⟩, ?_⟩)) ?_)
         | ((first | refine call_pure' (kc) rfl ?_); simp only [go_sem,simprocAttr,hd,hz,han,hk1,hpC,p1,p1',hpg,hrow,hne])
         | (refine And.intro (by rw [hy]; unfold ysX ysC; rw [decide_eq_true hiq, cond_true]; unfold bfC; rw [hat]; rfl) ?_)
         | (simp only [go_sem,simprocAttr,hk1,p1,p1',hpC,hpg,hrow,hne])
         | fail
        all_goals try (exfalso; omega)
        refine ⟨i + 1, ?_, ⟨by omega, by rw [hsu, List.length_append, List.length_singleton]; omega⟩, by omega⟩
        rw [hsu, List.length_append, List.length_singleton]
        refine ent_eq ?_ rfl rfl rfl
        (repeat' first | exact trivial | refine ⟨?_, ?_⟩ | rfl | (refine congrArg (fun z => some (AV.v (Value.int .i64 z))) ?_; omega))
  · obtain rfl : i = ts.length := by omega
    exact absurd hq (by omega)
end Go.Proofs.YtabmhfmglhjmjaaGreatDoor
set_option maxRecDepth 100000
set_option maxHeartbeats 4000000
set_option linter.unusedSimpArgs false
set_option linter.unusedVariables false
set_option linter.unusedSectionVars false
namespace Go.Proofs.YtabmhfmglhjmjaaGreatDoor
open Go.Ab Go.RowKit
variable [Dr]
theorem costsTo_any (row : List Int) (f : Nat → Int) (p : Int → Bool) : ∀ n, (costsTo row f n).any p = (List.range n).any fun i => gi row i != -1 && p (f i)
  | 0 => rfl
  | n + 1 => by
    rw [costsTo, List.range_succ, List.any_append, ← costsTo_any row f p n]
    cases h : gi row n != -1
    · simp [h]
    · simp [h]
theorem any_first {p : Int → Bool} {xs : List Int} (h : xs.any p = true) : ∃ q, q < xs.length ∧ p (gi xs (q : Nat)) = true ∧ ∀ t, t < q → p (gi xs (t : Nat)) = false := by
  rcases idxP_inv (p := fun i => p (gi xs (i : Nat))) (n := xs.length) with ⟨_, h2⟩ | ⟨i, _, h2, h3, h4⟩
  · rw [List.any_eq_true] at h
    obtain ⟨x, hx, hp⟩ := h
    obtain ⟨j, hj, rfl⟩ := List.getElem_of_mem hx
    have := h2 j hj
    simp only [gi, Int.toNat_natCast, List.getD_eq_getElem?_getD, List.getElem?_eq_getElem hj, Option.getD_some] at this
    rw [hp] at this; cases this
  · exact ⟨i, h2, h3, h4⟩
theorem any_none {p : Int → Bool} {xs : List Int} (h : xs.any p = false) {t : Nat} {v : Int} (ht : xs[t]? = some v) : p v = false := by
  rw [List.any_eq_false] at h
  simpa using h v (List.mem_of_getElem? ht)
def pcR (pp : List (List Int)) (T k : Nat) : Int := firstE [unlessE (((gS pp k).length : Int) == T) 10, unlessE (!((gS pp k).any fun n => !within n (-1000000000) 1000000000)) 2]
def prE1 (pp : List (List Int)) (K T : Nat) : Int := bif (pp.length : Int) != K then 10 else (fb7 (pcR pp T) K).2
def badP (ts : List Tf) (G : Nat) (c : Int) (pp : List (List Int)) : Nat → Nat → Bool
  | 0, j => decide (dvn ts G 0 j < pvP pp 0 j)
  | k + 1, j => (bfC ts G c pp k j ts.length).any fun v => decide (v + dvn ts G (k + 1) j < pvP pp (k + 1) j)
def badQ (ts : List Tf) (G : Nat) (c : Int) (pp : List (List Int)) (k j : Nat) : Bool := dvn ts G k j != -1 && badP ts G c pp k j
def badR (ts : List Tf) (G : Nat) (c : Int) (pp : List (List Int)) (k : Nat) : Bool := (List.range ts.length).any (badQ ts G c pp k)
def prBad (ts : List Tf) (G : Nat) (c : Int) (pp : List (List Int)) (K : Nat) : Bool := (List.range K).any (badR ts G c pp)
theorem any_at {p : Nat → Bool} {n i : Nat} (hi : i < n) (h : p i = true) : (List.range n).any p = true := List.any_eq_true.2 ⟨i, List.mem_range.2 hi, h⟩
theorem any_no {p : Nat → Bool} {n : Nat} : (List.range n).any p = false ↔ ∀ i, i < n → p i = false := by simp
def bdT (ts : List Tf) (G : Nat) (pp : List (List Int)) (K : Nat) : Nat → Int × Bool
  | 0 => (0, false)
  | j + 1 => bif dvn ts G (K - 1) j != -1 then (bif !(bdT ts G pp K j).2 || decide (pvP pp (K - 1) j < (bdT ts G pp K j).1) then (pvP pp (K - 1) j, true) else bdT ts G pp K j) else bdT ts G pp K j
def prErr (ts : List Tf) (G : Nat) (c : Int) (pp : List (List Int)) (K : Nat) : Int := bif prE1 pp K ts.length != 0 then prE1 pp K ts.length else bif prBad ts G c pp K then 19 else 0
theorem prE1_zero {pp : List (List Int)} {K T : Nat} (h : prE1 pp K T = 0) : pp.length = K ∧ ∀ k, k < K → (gS pp k).length = T ∧ ∀ i : Nat, i < T → -1000000000 ≤ pvP pp k i ∧ pvP pp k i ≤ 1000000000 := by
  unfold prE1 at h
  cases hl : (pp.length : Int) != K <;> rw [hl] at h
  · rw [cond_false] at h
    refine ⟨by have : (pp.length : Int) = K := by simpa using hl
               omega, fun k hk => ?_⟩
    have hz := firstE_zero (fb7_none _ h k hk)
    have e1 := unlessE_zero (by decide) (hz (unlessE (((gS pp k).length : Int) == T) 10) (by simp))
    have e2 := unlessE_zero (by decide) (hz (unlessE (!((gS pp k).any fun n => !within n (-1000000000) 1000000000)) 2) (by simp))
    have hlen : (gS pp k).length = T := by have : ((gS pp k).length : Int) = T := by simpa using e1
                                           omega
    refine ⟨hlen, fun i hi => ?_⟩
    have e3 : ((gS pp k).any fun n => !within n (-1000000000) 1000000000) = false := by simpa using e2
    have hi' : i < (gS pp k).length := by omega
    have := any_none e3 (List.getElem?_eq_getElem hi')
    have hg : pvP pp k i = (gS pp k)[i] := by simp [pvP, gi, hi']
    rw [hg]
    exact within_iff.1 (by simpa using this)
  · cases h
theorem bdT_le {ts : List Tf} {G : Nat} {pp : List (List Int)} {K : Nat} : ∀ {n j : Nat}, j < n → dvn ts G (K - 1) j ≠ -1 → (bdT ts G pp K n).2 = true ∧ (bdT ts G pp K n).1 ≤ pvP pp (K - 1) j
  | 0, j, h, _ => absurd h (by omega)
  | n + 1, j, h, hd => by
    rw [bdT]
    by_cases e : j = n
    · subst e
      rw [show (dvn ts G (K - 1) j != -1) = true by simpa using hd, cond_true]
      cases hb : (!(bdT ts G pp K j).2 || decide (pvP pp (K - 1) j < (bdT ts G pp K j).1))
      · rw [cond_false]
        rw [Bool.or_eq_false_iff] at hb
        exact ⟨by simpa using hb.1, by have := of_decide_eq_false hb.2; omega⟩
      · rw [cond_true]; exact ⟨rfl, Int.le_refl _⟩
    · obtain ⟨h1, h2⟩ := bdT_le (pp := pp) (n := n) (by omega) hd
      cases dvn ts G (K - 1) n != -1
      · exact ⟨h1, h2⟩
      · rw [cond_true]
        cases hb : (!(bdT ts G pp K n).2 || decide (pvP pp (K - 1) n < (bdT ts G pp K n).1))
        · exact ⟨h1, h2⟩
        · rw [cond_true]
          rw [h1] at hb
          have := of_decide_eq_true (by simpa using hb : decide (pvP pp (K - 1) n < (bdT ts G pp K n).1) = true)
          exact ⟨rfl, by dsimp only; omega⟩
theorem bdT_b {ts : List Tf} {G : Nat} {pp : List (List Int)} {K : Nat} (h : ∀ i : Nat, i < ts.length → -1000000000 ≤ pvP pp (K - 1) i ∧ pvP pp (K - 1) i ≤ 1000000000) : ∀ {n : Nat}, n ≤ ts.length → -1000000000 ≤ (bdT ts G pp K n).1 ∧ (bdT ts G pp K n).1 ≤ 1000000000
  | 0, _ => by show (-1000000000 : Int) ≤ 0 ∧ (0 : Int) ≤ 1000000000; omega
  | n + 1, hn => by
    have ih := bdT_b (G := G) h (n := n) (by omega)
    rw [bdT]
    cases dvn ts G (K - 1) n != -1
    · exact ih
    · rw [cond_true]
      cases (!(bdT ts G pp K n).2 || decide (pvP pp (K - 1) n < (bdT ts G pp K n).1))
      · exact ih
      · exact h n (by omega)
theorem c_CP1 (n : Int) : Pure Tryz.prog 133 [iv n] (.v (.bool (!within n (-1000000000) 1000000000))) := by
  refine p_intro evOk [] Tryz.func133 rfl Tryz.call133 ?_
  repeat' first
   | refine v_seq ?_ | refine v_block ?_ | refine v_ret ?_ | refine v_skip ?_ | (refine v_exit ?_; repeat' first | refine xB_eq ?_ | refine xB_ne rfl ?_)
   | ((first | refine rgA fun K hK => ?_ | refine rgB rfl fun K hK => ?_ | refine rgC rfl fun K hK => ?_); simp only [go_sem,simprocAttr])
   | (simp (disch := first | omega | rfl | (simp only [lnn]; omega)) only [spl])
   | (refine hK _ ?_; clear hK K)
   | (refine gdB_intro (fun h => ?_) (fun h => ?_) <;> simp only [go_sem,simprocAttr,h] <;> (have h' := h; try simp only [bl] at h'))
   | (refine v_cond rfl (fun h => ?_) (fun h => ?_) <;> first | (exact Bool.noConfusion h) | (have h' := h; try simp only [bl] at h'))
   | (refine r_ret ?_; simp only [resL, resA, Tryz.f133, lk_cons', lk_nil', Nat.reduceBEq]; first | exact ⟨rfl, Sb.nil _, rfl⟩ | refine ⟨rfl, sbt ?_, rfl⟩ | refine ⟨rfl, Sb.of_eq ?_, rfl⟩)
   | (refine And.intro (by first | exact True.intro | omega | rfl | exact Nat.le_of_ble_eq_true rfl | (simp only [lnn]; omega) | exact List.forall_mem_nil _ | (refine List.forall_mem_cons.2 ⟨⟨_, rfl⟩, ?_⟩; repeat' first | exact List.forall_mem_nil _ | refine List.forall_mem_cons.2 ⟨⟨_, rfl⟩, ?_⟩)) ?_)
   | ((first | refine call_pure' (c_isSized n 1000000000 (by omega)) rfl ?_); simp only [go_sem,simprocAttr])
   | fail
theorem c_before (ts : List Tf) (n g c : Int) (G m k j : Nat) (pp : List (List Int)) : Pure Tryz.prog 135 [tkX ts n g c G m, iv ((k + 1 : Nat) : Int), iv j, lsA pp] (.fn (.func 163) [] (bfCaps ts n g c G m k j (lsA pp))) := by
  unfold tkX
  refine p_intro evOk [] Tryz.func135 rfl Tryz.call135 ?_
  repeat' first
   | refine v_seq ?_ | refine v_block ?_ | refine v_ret ?_ | refine v_skip ?_ | (refine v_exit ?_; repeat' first | refine xB_eq ?_ | refine xB_ne rfl ?_)
   | ((first | refine rgA fun K hK => ?_ | refine rgB rfl fun K hK => ?_ | refine rgC rfl fun K hK => ?_); simp only [go_sem,simprocAttr])
   | (simp (disch := first | omega | rfl | (simp only [lnn]; omega)) only [spl])
   | (refine hK _ ?_; clear hK K)
   | (refine gdB_intro (fun h => ?_) (fun h => ?_) <;> simp only [go_sem,simprocAttr,h] <;> (have h' := h; try simp only [bl] at h'))
   | (refine v_cond rfl (fun h => ?_) (fun h => ?_) <;> first | (exact Bool.noConfusion h) | (have h' := h; try simp only [bl] at h'))
   | (refine r_ret ?_; simp only [resL, resA, Tryz.f135, lk_cons', lk_nil', Nat.reduceBEq]; first | exact ⟨rfl, Sb.nil _, rfl⟩ | refine ⟨rfl, sbt ?_, rfl⟩ | refine ⟨rfl, Sb.of_eq ?_, rfl⟩)
   | (refine And.intro (by first | exact True.intro | omega | rfl | exact Nat.le_of_ble_eq_true rfl | (simp only [lnn]; omega) | exact List.forall_mem_nil _ | (refine List.forall_mem_cons.2 ⟨⟨_, rfl⟩, ?_⟩; repeat' first | exact List.forall_mem_nil _ | refine List.forall_mem_cons.2 ⟨⟨_, rfl⟩, ?_⟩)) ?_)
   | fail
theorem c_beforeV (ts : List Tf) (n g c : Int) (G m k j : Nat) (a : Option Addr) (q r : Nat) : Pure Tryz.prog 135 [tkX ts n g c G m, iv ((k + 1 : Nat) : Int), iv j, .v (.slice a q r)] (.fn (.func 163) [] (bfCaps ts n g c G m k j (.v (.slice a q r)))) := by
  unfold tkX
  refine p_intro evOk [] Tryz.func135 rfl Tryz.call135 ?_
  repeat' first
   | refine v_seq ?_ | refine v_block ?_ | refine v_ret ?_ | refine v_skip ?_ | (refine v_exit ?_; repeat' first | refine xB_eq ?_ | refine xB_ne rfl ?_)
   | ((first | refine rgA fun K hK => ?_ | refine rgB rfl fun K hK => ?_ | refine rgC rfl fun K hK => ?_); simp only [go_sem,simprocAttr])
   | (simp (disch := first | omega | rfl | (simp only [lnn]; omega)) only [spl])
   | (refine hK _ ?_; clear hK K)
   | (refine gdB_intro (fun h => ?_) (fun h => ?_) <;> simp only [go_sem,simprocAttr,h] <;> (have h' := h; try simp only [bl] at h'))
   | (refine v_cond rfl (fun h => ?_) (fun h => ?_) <;> first | (exact Bool.noConfusion h) | (have h' := h; try simp only [bl] at h'))
   | (refine r_ret ?_; simp only [resL, resA, Tryz.f135, lk_cons', lk_nil', Nat.reduceBEq]; first | exact ⟨rfl, Sb.nil _, rfl⟩ | refine ⟨rfl, sbt ?_, rfl⟩ | refine ⟨rfl, Sb.of_eq ?_, rfl⟩)
   | (refine And.intro (by first | exact True.intro | omega | rfl | exact Nat.le_of_ble_eq_true rfl | (simp only [lnn]; omega) | exact List.forall_mem_nil _ | (refine List.forall_mem_cons.2 ⟨⟨_, rfl⟩, ?_⟩; repeat' first | exact List.forall_mem_nil _ | refine List.forall_mem_cons.2 ⟨⟨_, rfl⟩, ?_⟩)) ?_)
   | fail
end Go.Proofs.YtabmhfmglhjmjaaGreatDoor

/- Parts of the proof, put together by a program. -/
import Derived.Test.YtabmhfmglhjmjaaGreatDoorUae
import Derived.Test.YtabmhfmglhjmjaaGreatDoorUag
set_option maxRecDepth 100000
set_option maxHeartbeats 4000000
set_option linter.unusedSimpArgs false
set_option linter.unusedVariables false
set_option linter.unusedSectionVars false
namespace Go.Proofs.YtabmhfmglhjmjaaGreatDoor
open Go.Ab Go.RowKit
variable [Dr]
theorem m_deviation (ts : List Tf) (h : TfOk ts) (n c : Int) (D : AV) (G k i : Nat) (hi : i < ts.length) (hG : 1 ≤ G) (hk : k * G + G ≤ 200) (H : Hp) (nx : Nat) (hH : ∀ j, nx ≤ j → H j = none) (K : AV → Hp → Nat → Prop) (hK : K (iv (dvn ts G k i)) H (nx + 1)) :
    CallM Tryz.prog 143 H nx [.ag [tsl ts, iv n, iv G, iv c, D], .ag [.v (.string (gt7 ts i).nm), iv (gt7 ts i).lag, isl (gt7 ts i).xs], iv ((k * G : Nat) : Int)] K := by
  have hlag := h.lag i hi
  have hlen := h.len i hi
  have h6 := h.n6
  refine call_in evOk [3] Tryz.func143 rfl Tryz.call143 ?_
  repeat' first
   | refine v_seq ?_ | refine v_block ?_ | refine v_ret ?_ | refine v_skip ?_ | (refine v_exit ?_; repeat' first | refine xB_eq ?_ | refine xB_ne rfl ?_)
   | ((first | refine rgA fun K hK => ?_ | refine rgB rfl fun K hK => ?_ | refine rgC rfl fun K hK => ?_); simp only [go_sem,simprocAttr,entryFr])
   | (simp (disch := first | omega | rfl | (simp only [lnn]; omega)) only [spl])
   | (refine hK _ ?_; clear hK K)
   | (refine gdB_intro (fun h => ?_) (fun h => ?_) <;> simp only [go_sem,simprocAttr,h,entryFr] <;> (have h' := h; try simp only [bl] at h'))
   | (refine v_cond rfl (fun h => ?_) (fun h => ?_) <;> first | (exact Bool.noConfusion h) | (have h' := h; try simp only [bl] at h'))
   | (refine r_ret ?_; simp only [resL, resA, Tryz.f143, lk_cons', lk_nil', Nat.reduceBEq]; first | exact ⟨rfl, Sb.nil _, rfl⟩ | refine ⟨rfl, sbt ?_, rfl⟩ | refine ⟨rfl, Sb.of_eq ?_, rfl⟩)
   | (refine And.intro (by first | exact True.intro | omega | rfl | exact Nat.le_of_ble_eq_true rfl | (simp only [lnn]; omega) | exact List.forall_mem_nil _ | (refine List.forall_mem_cons.2 ⟨⟨_, rfl⟩, ?_⟩; repeat' first | exact List.forall_mem_nil _ | refine List.forall_mem_cons.2 ⟨⟨_, rfl⟩, ?_⟩)) ?_)
   | fail
  refine v_loop (T := Nat) (fun q => ⟨[(2, iv ((k * G : Nat) : Int)), (3, .lp nx 0), (4, .pt [.v (.string (gt7 ts i).nm), iv (gt7 ts i).lag, isl (gt7 ts i).xs] 0), (7, iv (dvTo ts G k i q)), (8, iv ((k * G + q : Nat) : Int))], hset H nx (some [tsl ts, iv n, iv G, iv c, D]), nx + 1, (46, nx, 0)⟩) (fun q => q ≤ G ∧ ∀ r, r < q → hasAt (gt7 ts i) ((k * G + r : Nat) : Int) = true) (fun q => G - q) 0 ⟨by omega, fun r hr => absurd hr (by omega)⟩ (by (refine ent_eq ?_ rfl rfl rfl; repeat' first | exact trivial | refine ⟨?_, ?_⟩ | rfl)) ?_
  rintro q ⟨hq, hP⟩
  have hend : ∀ (v : Int) (fr : List (Nat × AV)), lk fr 6 = some (iv v) → dvn ts G k i = v → inP ev Tryz.f143 K ⟨fr, hset H nx (some [tsl ts, iv n, iv G, iv c, D]), nx + 1, (46, nx, 0)⟩ := fun v fr hfr hv => by
    refine ⟨⟨[(6, iv v)], H, nx + 1, (46, nx, 0)⟩, ?_, ?_⟩
    · refine ent_eq_hp ⟨hfr, True.intro⟩ rfl (fun j c' hj => ?_) (Nat.le_refl _) (fun j hj => hH j (by have : nx + 1 ≤ j := hj; omega))
      have hj : H j = some c' := hj
      have hne : nx ≠ j := fun e => by subst e; rw [hH nx (Nat.le_refl _)] at hj; cases hj
      show hset H nx _ j = _
      rw [hset', show (nx == j) = false by simpa using hne]
      exact hj
    · simp only [resL, resA, Tryz.f143, lk_cons', Nat.reduceBEq]
      rw [← hv]
      exact hK
  by_cases hq2 : q < G
  · have hd : decide (((k * G + q : Nat) : Int) < ((k * G : Nat) : Int) + (G : Int)) = true := decide_eq_true (by omega)
    have ks := c_sample (gt7 ts i) ((k * G + q : Nat) : Int) (by unfold Len; omega) (by omega) (by omega)
    have hdb := dvTo_bound h hi G k q
    have hsb := smp_bound h hi ((k * G + q : Nat) : Int)
    have hmb := medAt_bound h ((k * G + q : Nat) : Int)
    cases hc : hasAt (gt7 ts i) ((k * G + q : Nat) : Int)
    · rw [hc] at ks
      repeat' first
       | refine v_seq ?_ | refine v_block ?_ | refine v_ret ?_ | refine v_skip ?_ | (refine v_exit ?_; repeat' first | refine xB_eq ?_ | refine xB_ne rfl ?_)
       | ((first | refine rgA fun K hK => ?_ | refine rgB rfl fun K hK => ?_ | refine rgC rfl fun K hK => ?_); simp only [go_sem,simprocAttr,hd,hset_at])
       | (simp (disch := first | omega | rfl | (simp only [lnn]; omega)) only [spl])
       | (refine hK _ ?_; clear hK K)
       | (refine gdB_intro (fun h => ?_) (fun h => ?_) <;> simp only [go_sem,simprocAttr,h,hd,hset_at] <;> (have h' := h; try simp only [bl] at h'))
       | (refine v_cond rfl (fun h => ?_) (fun h => ?_) <;> first | (exact Bool.noConfusion h) | (have h' := h; try simp only [bl] at h'))
       | (refine r_ret ?_; simp only [resL, resA, Tryz.f143, lk_cons', lk_nil', Nat.reduceBEq]; first | exact ⟨rfl, Sb.nil _, rfl⟩ | refine ⟨rfl, sbt ?_, rfl⟩ | refine ⟨rfl, Sb.of_eq ?_, rfl⟩)
       | (refine And.intro (by first | exact True.intro | omega | rfl | exact Nat.le_of_ble_eq_true rfl | (simp only [lnn]; omega) | exact List.forall_mem_nil _ | (refine List.forall_mem_cons.2 ⟨⟨_, rfl⟩, ?_⟩; repeat' first | exact List.forall_mem_nil _ | refine List.forall_mem_cons.2 ⟨⟨_, rfl⟩, ?_⟩)) ?_)
       | ((first | refine call_pure' (ks) rfl ?_); simp only [go_sem,simprocAttr,hd,hset_at])
       | fail
      all_goals try (exfalso; omega)
      all_goals exact hend _ _ rfl (by unfold dvn; rw [cov_bad hq2 hc]; rfl)
    · rw [hc] at ks
      have hcp := colTo_pos hc ts.length hi
      have km := c_median ts ((k * G + q : Nat) : Int) h (by omega)
      rw [show ((col ts ((k * G + q : Nat) : Int)).length == 0) = false from beq_false_of_ne (by unfold col; omega)] at km
      have hsu : dvTo ts G k i (q + 1) = dvTo ts G k i q + ((smp (gt7 ts i) ((k * G + q : Nat) : Int) - medAt ts ((k * G + q : Nat) : Int)).natAbs : Int) := rfl
      have kz := c_size (smp (gt7 ts i) ((k * G + q : Nat) : Int) - medAt ts ((k * G + q : Nat) : Int)) (by omega)
      repeat' first
       | refine v_seq ?_ | refine v_block ?_ | refine v_ret ?_ | refine v_skip ?_ | (refine v_exit ?_; repeat' first | refine xB_eq ?_ | refine xB_ne rfl ?_)
       | ((first | refine rgA fun K hK => ?_ | refine rgB rfl fun K hK => ?_ | refine rgC rfl fun K hK => ?_); simp only [go_sem,simprocAttr,hd,hset_at])
       | (simp (disch := first | omega | rfl | (simp only [lnn]; omega)) only [spl])
       | (refine hK _ ?_; clear hK K)
       | (refine gdB_intro (fun h => ?_) (fun h => ?_) <;> simp only [go_sem,simprocAttr,h,hd,hset_at] <;> (have h' := h; try simp only [bl] at h'))
       | (refine v_cond rfl (fun h => ?_) (fun h => ?_) <;> first | (exact Bool.noConfusion h) | (have h' := h; try simp only [bl] at h'))
       | (refine r_ret ?_; simp only [resL, resA, Tryz.f143, lk_cons', lk_nil', Nat.reduceBEq]; first | exact ⟨rfl, Sb.nil _, rfl⟩ | refine ⟨rfl, sbt ?_, rfl⟩ | refine ⟨rfl, Sb.of_eq ?_, rfl⟩)
       | (refine And.intro (by first | exact True.intro | omega | rfl | exact Nat.le_of_ble_eq_true rfl | (simp only [lnn]; omega) | exact List.forall_mem_nil _ | (refine List.forall_mem_cons.2 ⟨⟨_, rfl⟩, ?_⟩; repeat' first | exact List.forall_mem_nil _ | refine List.forall_mem_cons.2 ⟨⟨_, rfl⟩, ?_⟩)) ?_)
       | ((first | refine call_pure' (ks) rfl ?_ | refine call_pure' (km) rfl ?_ | refine call_pure' (kz) rfl ?_); simp only [go_sem,simprocAttr,hd,hset_at])
       | fail
      all_goals try (exfalso; omega)
      refine ⟨q + 1, ?_, ⟨by omega, below_succ hP hc⟩, by omega⟩
      rw [hsu, show ((k * G + (q + 1) : Nat) : Int) = ((k * G + q : Nat) : Int) + 1 by omega]
      (refine ent_eq ?_ rfl rfl rfl; repeat' first | exact trivial | refine ⟨?_, ?_⟩ | rfl)
  · obtain rfl : q = G := by omega
    have hd : decide (((k * q + q : Nat) : Int) < ((k * q : Nat) : Int) + (q : Int)) = false := decide_eq_false (by omega)
    repeat' first
     | refine v_seq ?_ | refine v_block ?_ | refine v_ret ?_ | refine v_skip ?_ | (refine v_exit ?_; repeat' first | refine xB_eq ?_ | refine xB_ne rfl ?_)
     | ((first | refine rgA fun K hK => ?_ | refine rgB rfl fun K hK => ?_ | refine rgC rfl fun K hK => ?_); simp only [go_sem,simprocAttr,hd,hset_at])
     | (simp (disch := first | omega | rfl | (simp only [lnn]; omega)) only [spl])
     | (refine hK _ ?_; clear hK K)
     | (refine gdB_intro (fun h => ?_) (fun h => ?_) <;> simp only [go_sem,simprocAttr,h,hd,hset_at] <;> (have h' := h; try simp only [bl] at h'))
     | (refine v_cond rfl (fun h => ?_) (fun h => ?_) <;> first | (exact Bool.noConfusion h) | (have h' := h; try simp only [bl] at h'))
     | (refine r_ret ?_; simp only [resL, resA, Tryz.f143, lk_cons', lk_nil', Nat.reduceBEq]; first | exact ⟨rfl, Sb.nil _, rfl⟩ | refine ⟨rfl, sbt ?_, rfl⟩ | refine ⟨rfl, Sb.of_eq ?_, rfl⟩)
     | (refine And.intro (by first | exact True.intro | omega | rfl | exact Nat.le_of_ble_eq_true rfl | (simp only [lnn]; omega) | exact List.forall_mem_nil _ | (refine List.forall_mem_cons.2 ⟨⟨_, rfl⟩, ?_⟩; repeat' first | exact List.forall_mem_nil _ | refine List.forall_mem_cons.2 ⟨⟨_, rfl⟩, ?_⟩)) ?_)
     | fail
    all_goals try (exfalso; omega)
    all_goals exact hend _ _ rfl (by unfold dvn; rw [cov_iff.2 hP]; rfl)
theorem c_open1 (n : Int) : Pure Tryz.prog 144 [iv n] (.v (.bool (n != -1))) := by
  refine p_intro evOk [] Tryz.func144 rfl Tryz.call144 ?_
  repeat' first
   | refine v_seq ?_ | refine v_block ?_ | refine v_ret ?_ | refine v_skip ?_ | (refine v_exit ?_; repeat' first | refine xB_eq ?_ | refine xB_ne rfl ?_)
   | ((first | refine rgA fun K hK => ?_ | refine rgB rfl fun K hK => ?_ | refine rgC rfl fun K hK => ?_); simp only [go_sem,simprocAttr])
   | (simp (disch := first | omega | rfl | (simp only [lnn]; omega)) only [spl])
   | (refine hK _ ?_; clear hK K)
   | (refine gdB_intro (fun h => ?_) (fun h => ?_) <;> simp only [go_sem,simprocAttr,h] <;> (have h' := h; try simp only [bl] at h'))
   | (refine v_cond rfl (fun h => ?_) (fun h => ?_) <;> first | (exact Bool.noConfusion h) | (have h' := h; try simp only [bl] at h'))
   | (refine r_ret ?_; simp only [resL, resA, Tryz.f144, lk_cons', lk_nil', Nat.reduceBEq]; first | exact ⟨rfl, Sb.nil _, rfl⟩ | refine ⟨rfl, sbt ?_, rfl⟩ | refine ⟨rfl, Sb.of_eq ?_, rfl⟩)
   | (refine And.intro (by first | exact True.intro | omega | rfl | exact Nat.le_of_ble_eq_true rfl | (simp only [lnn]; omega) | exact List.forall_mem_nil _ | (refine List.forall_mem_cons.2 ⟨⟨_, rfl⟩, ?_⟩; repeat' first | exact List.forall_mem_nil _ | refine List.forall_mem_cons.2 ⟨⟨_, rfl⟩, ?_⟩)) ?_)
   | fail
def tkA (ts : List Tf) (n g c : Int) : AV := .ag [tsl ts, iv n, iv g, iv c]
def devC (ts : List Tf) (G K : Nat) : List AV := (List.range K).map fun k => isl (devRow ts G k)
theorem devC_len (ts : List Tf) (G K : Nat) : (devC ts G K).length = K := by simp [devC]
theorem devC_succ (ts : List Tf) (G K : Nat) : devC ts G K ++ [isl (devRow ts G K)] = devC ts G (K + 1) := by simp [devC, List.range_succ]
theorem devC_at {ts : List Tf} {G K k : Nat} (h : k < K) : (devC ts G K)[k]? = some (isl (devRow ts G k)) := by simp [devC, h]
theorem isl_list_plain (f : Nat → List Int) : ∀ l : List Nat, plainL (l.map fun k => isl (f k)) = true
  | [] => rfl
  | k :: l => by
    have := isl_list_plain f l
    simp only [List.map_cons, plainL, AV.plain, isl, ints_plain, this, Bool.and_self]
theorem devC_plain (ts : List Tf) (G K : Nat) : plainL (devC ts G K) = true := isl_list_plain _ _
theorem isl_list_one (f : Nat → List Int) : ∀ l : List Nat, oneL (l.map fun k => isl (f k)) = true
  | [] => rfl
  | k :: l => by
    have := isl_list_one f l
    unfold oneL at *
    rw [List.map_cons, List.all_cons, this]
    rfl
theorem devC_one (ts : List Tf) (G K : Nat) : oneL (devC ts G K) = true := isl_list_one _ _
abbrev tkX (ts : List Tf) (n g c : Int) (G K : Nat) : AV := .ag [tsl ts, iv n, iv g, iv c, .sl 1 K (devC ts G K)]
def tkK (ts : List Tf) (n g : Int) : Nat := n.toNat / g.toNat
theorem hset_none {H : Hp} {k j : Nat} {c : Option (List AV)} (h : k ≠ j) (h2 : H j = none) : hset H k c j = none := by
  rw [hset', show (k == j) = false by simpa using h]; exact h2
theorem spl5 (a b c d e a' b' c' d' e' : AV) : splice [a, b, c, d, e] 0 [a', b', c', d', e'] = [a', b', c', d', e'] := splice_all rfl
theorem fz_sl (k : Nat) (c : List AV) (s n : Nat) (cs : List AV) : AV.fz k c (.sl s n cs) = .sl s n cs := rfl
theorem isl_fz (k : Nat) (c : List AV) (f : Nat → List Int) : ∀ l : List Nat, (l.map fun q => isl (f q)).map (AV.fz k c) = l.map fun q => isl (f q)
  | [] => rfl
  | q :: l => by
    have := isl_fz k c f l
    rw [List.map_cons, List.map_cons, this]
    rfl
theorem devC_fz (k : Nat) (c : List AV) (ts : List Tf) (G K : Nat) : (devC ts G K).map (AV.fz k c) = devC ts G K := isl_fz _ _ _ _
theorem gap_any (ts : List Tf) (G k : Nat) : (devRow ts G k).any (fun n => n != -1) = !gap7 ts G k := by
  unfold gap7
  rw [← any_not_all]
  rfl
theorem c_openG (ts : List Tf) (n c : Int) (G KK kg : Nat) (hl : Len ts.length) (hn : ∀ i, i < ts.length → Len (gt7 ts i).nm.size ∧ Len (gt7 ts i).xs.length) (h1 : tkE1 ts n G c = 0) (h2 : tkE2 n G = 0) (hk : TkOk ts n G c KK G)
    (hkg : kg ≤ KK) (hfirst : ∀ k, k < kg → gap7 ts G k = false) (hend : kg < KK → gap7 ts G kg = true) :
    Pure Tryz.prog 93 [tkA ts n G c] (.tu [tkX ts n G c G kg, iv (bif kg == KK then 0 else 14)]) := by
  have kc := c_CheckTransfers ts hl hn
  obtain ⟨_, _, hgb, _⟩ := tkE1_zero h1
  have hrem : n.tmod G == 0 := unlessE_zero (by decide) (firstE_zero h2 (unlessE (n.tmod G == 0) 10) (by simp))
  have k1 := c_first [(ckT ts).2, lengthE n, unlessE (within G 1 n && within c 0 1000000) 2] (len_lit rfl)
  change Pure _ _ _ (iv (tkE1 ts n G c)) at k1
  rw [h1] at k1
  have k2 := c_first [unlessE (n.tmod G == 0) 10, unlessE (decide (n.tdiv G ≤ 20)) 8] (len_lit rfl)
  change Pure _ _ _ (iv (tkE2 n G)) at k2
  rw [h2, hrem] at k2
  have hw : (within G 1 n && within c 0 1000000) = true := unlessE_zero (by decide) (firstE_zero h1 (unlessE (within G 1 n && within c 0 1000000) 2) (by simp))
  have hw1 : within G 1 n = true := by simp only [Bool.and_eq_true] at hw; exact hw.1
  have hw2 : within c 0 1000000 = true := by simp only [Bool.and_eq_true] at hw; exact hw.2
  rw [hw] at k1
  have hok := hk.ok
  have h6 := hok.n6
  have hL := tcs_len ts
  have htd := tdiv_bound (n := n) (b := (G : Int)) (c := 200) (by omega) (by omega)
  generalize (ckT ts).1 = z1 at *
  have n0 : ((0 : Nat) : Int) = 0 := rfl
  have hG1 := hk.G1
  have hnb := hk.nb
  have hKG := hk.KG
  have hKG' : n = ((KK * G : Nat) : Int) := by rw [hKG, Int.natCast_mul]
  have hK20 := hk.K20
  unfold tkA
  refine p_intro evOk [2, 4, 8, 10, 77] Tryz.func93 rfl Tryz.call93 ?_
  repeat' first
   | refine v_seq ?_ | refine v_block ?_ | refine v_ret ?_ | refine v_skip ?_ | (refine v_exit ?_; repeat' first | refine xB_eq ?_ | refine xB_ne rfl ?_)
   | ((first | refine rgA fun K hK => ?_ | refine rgB rfl fun K hK => ?_ | refine rgC rfl fun K hK => ?_); simp only [go_sem,simprocAttr,hw1,hw2,hrem,n0,bne_self_eq_false,beq_self_eq_true,hset_at,hset_hset])
   | (simp (disch := first | omega | rfl | (simp only [lnn]; omega)) only [spl])
   | (refine hK _ ?_; clear hK K)
   | (refine gdB_intro (fun h => ?_) (fun h => ?_) <;> simp only [go_sem,simprocAttr,h,hw1,hw2,hrem,n0,bne_self_eq_false,beq_self_eq_true,hset_at,hset_hset] <;> (have h' := h; try simp only [bl] at h'))
   | (refine v_cond rfl (fun h => ?_) (fun h => ?_) <;> first | (exact Bool.noConfusion h) | (have h' := h; try simp only [bl] at h'))
   | (refine r_ret ?_; simp only [resL, resA, Tryz.f93, lk_cons', lk_nil', Nat.reduceBEq]; first | exact ⟨rfl, Sb.nil _, rfl⟩ | refine ⟨rfl, sbt ?_, rfl⟩ | refine ⟨rfl, Sb.of_eq ?_, rfl⟩)
   | (refine And.intro (by first | exact True.intro | omega | rfl | exact Nat.le_of_ble_eq_true rfl | (simp only [lnn]; omega) | exact List.forall_mem_nil _ | (refine List.forall_mem_cons.2 ⟨⟨_, rfl⟩, ?_⟩; repeat' first | exact List.forall_mem_nil _ | refine List.forall_mem_cons.2 ⟨⟨_, rfl⟩, ?_⟩)) ?_)
   | ((first | refine call_pure' (kc) rfl ?_ | refine call_pure' (c_lengthErr _) rfl ?_ | refine call_pure' (c_within _ _ _) rfl ?_ | refine call_pure' (c_unless _ _) rfl ?_ | refine call_pure' (k1) rfl ?_ | refine call_pure' (k2) rfl ?_); simp only [go_sem,simprocAttr,hw1,hw2,hrem,n0,bne_self_eq_false,beq_self_eq_true,hset_at,hset_hset])
   | fail
  refine vc_ent (ent_nil_cell 1 4 1 rfl rfl) ?_
  refine v_loop (T := Nat × Nat × Nat) (fun x => ⟨[(1, .pt [tsl ts, iv n, iv G, iv c] 0), (2, .lp 0 0), (4, .lp 1 0), (7, iv ((x.1 * G : Nat) : Int))], hls [(0, [.v (.slice none 0 0), iv 0, iv 0, iv 0, .v (.slice none 0 0)]), (1, [tsl ts, iv n, iv G, iv c, .ls x.2.1 0 1 x.1]), (x.2.1, devC ts G x.1)], x.2.2, (92, 0, 0)⟩) (fun x => x.1 ≤ kg ∧ 2 ≤ x.2.1 ∧ x.2.1 < x.2.2) (fun x => KK + 1 - x.1) (0, 2, 3) ⟨by (first | omega | (dsimp only; omega)), by (first | omega | (dsimp only; omega)), by (first | omega | (dsimp only; omega))⟩ (ent_rows _ (by simp only [Nat.zero_mul]; (repeat' first | exact trivial | refine ⟨?_, ?_⟩ | rfl)) rfl ⟨⟨rfl, by (first | omega | (dsimp only; omega))⟩, ⟨rfl, by (first | omega | (dsimp only; omega))⟩, ⟨rfl, by (first | omega | (dsimp only; omega))⟩, True.intro⟩ (Nat.le_refl _)) ?_
  rintro ⟨k, R, X⟩ ⟨hkk, hR, hRX⟩
  dsimp only at hkk hR hRX ⊢
  have hdl := devC_len ts G k
  have hdo := devC_one ts G k
  have r0 : (R == 0) = false := beq_ne (by omega)
  have r1 : (R == 1) = false := beq_ne (by omega)
  have r2 : (0 == R) = false := beq_ne (by omega)
  have r3 : (1 == R) = false := beq_ne (by omega)
  by_cases hk2 : k < KK
  · have hkG : k * G + G ≤ KK * G := by
      have := Nat.mul_le_mul_right G (show k + 1 ≤ KK by omega)
      rw [Nat.succ_mul] at this
      exact this
    have hd : decide (((k * G : Nat) : Int) < n) = true := decide_eq_true (by omega)
    repeat' first
     | refine v_seq ?_ | refine v_block ?_ | refine v_ret ?_ | refine v_skip ?_ | (refine v_exit ?_; repeat' first | refine xB_eq ?_ | refine xB_ne rfl ?_)
     | ((first | refine rgA fun K hK => ?_ | refine rgB rfl fun K hK => ?_ | refine rgC rfl fun K hK => ?_); simp only [go_sem,simprocAttr,hd,n0,hls,r0,r1,r2,r3,hset_at,hset_hset])
     | (simp (disch := first | omega | rfl | (simp only [lnn]; omega)) only [spl])
     | (refine hK _ ?_; clear hK K)
     | (refine gdB_intro (fun h => ?_) (fun h => ?_) <;> simp only [go_sem,simprocAttr,h,hd,n0,hls,r0,r1,r2,r3,hset_at,hset_hset] <;> (have h' := h; try simp only [bl] at h'))
     | (refine v_cond rfl (fun h => ?_) (fun h => ?_) <;> first | (exact Bool.noConfusion h) | (have h' := h; try simp only [bl] at h'))
     | (refine r_ret ?_; simp only [resL, resA, Tryz.f93, lk_cons', lk_nil', Nat.reduceBEq]; first | exact ⟨rfl, Sb.nil _, rfl⟩ | refine ⟨rfl, sbt ?_, rfl⟩ | refine ⟨rfl, Sb.of_eq ?_, rfl⟩)
     | (refine And.intro (by first | exact True.intro | omega | rfl | exact Nat.le_of_ble_eq_true rfl | (simp only [lnn]; omega) | exact List.forall_mem_nil _ | (refine List.forall_mem_cons.2 ⟨⟨_, rfl⟩, ?_⟩; repeat' first | exact List.forall_mem_nil _ | refine List.forall_mem_cons.2 ⟨⟨_, rfl⟩, ?_⟩)) ?_)
     | fail
    refine v_loop (T := Nat × Nat × Nat) (fun x => ⟨[(1, .pt [tsl ts, iv n, iv G, iv c] 0), (2, .lp 0 0), (4, .lp 1 0), (7, iv ((k * G : Nat) : Int)), (8, .ls x.2.1 0 1 x.1), (67, tsl ts), (68, iv ts.length), (69, iv x.1)], hls [(0, [.v (.slice none 0 0), iv 0, iv 0, iv 0, .v (.slice none 0 0)]), (1, [tsl ts, iv n, iv G, iv c, .ls R 0 1 k]), (R, devC ts G k), (x.2.1, ints (devTo ts G k x.1))], x.2.2, (92, 0, 0)⟩) (fun x => x.1 ≤ ts.length ∧ R < x.2.1 ∧ x.2.1 < x.2.2) (fun x => ts.length - x.1) (0, X, X + 1) ⟨by (first | omega | (dsimp only; omega)), by (first | omega | (dsimp only; omega)), by (first | omega | (dsimp only; omega))⟩ ?_ ?_
    · refine ent_rows _ (by (repeat' first | exact trivial | refine ⟨?_, ?_⟩ | rfl)) rfl ?_ (Nat.le_refl _)
      have x0 : (X == 0) = false := beq_ne (by omega)
      have x1 : (X == 1) = false := beq_ne (by omega)
      have x2 : (X == R) = false := beq_ne (by omega)
      exact ⟨⟨by simp [hset', x0, r0], by (first | omega | (dsimp only; omega))⟩, ⟨by simp [hset', x1, r1], by (first | omega | (dsimp only; omega))⟩, ⟨by simp [hset', x2, r2, r3], by (first | omega | (dsimp only; omega))⟩, ⟨hset_at _ _ _, by (first | omega | (dsimp only; omega))⟩, True.intro⟩
    rintro ⟨i, r, Y⟩ ⟨hi, hr, hrY⟩
    dsimp only at hi hr hrY ⊢
    have q0 : (r == 0) = false := beq_ne (by omega)
    have q1 : (r == 1) = false := beq_ne (by omega)
    have q2 : (r == R) = false := beq_ne (by omega)
    have q3 : (0 == r) = false := beq_ne (by omega)
    have q4 : (1 == r) = false := beq_ne (by omega)
    have q5 : (R == r) = false := beq_ne (by omega)
    have y0 : (Y == 0) = false := beq_ne (by omega)
    have y1 : (Y == 1) = false := beq_ne (by omega)
    have y2 : (Y == R) = false := beq_ne (by omega)
    have y3 : (Y == r) = false := beq_ne (by omega)
    have y4 : (0 == Y) = false := beq_ne (by omega)
    have y5 : (1 == Y) = false := beq_ne (by omega)
    have y6 : (R == Y) = false := beq_ne (by omega)
    have y7 : (r == Y) = false := beq_ne (by omega)
    have hel := devTo_len ts G k i
    have htk : List.take i (ints (devTo ts G k i)) = ints (devTo ts G k i) := List.take_of_length_le (by rw [ints_length, hel]; exact Nat.le_refl _)
    by_cases hi2 : i < ts.length
    · have hd2 : decide ((i : Int) < ts.length) = true := decide_eq_true (by omega)
      have g1 : List.take 3 (List.drop (((i : Nat) : Int).toNat * 3) (tcs ts)) = [.v (.string (gt7 ts i).nm), iv (gt7 ts i).lag, isl (gt7 ts i).xs] := tcs_at hi2
      have e0 : splice [AV.v (.string ByteArray.empty), AV.v (.int .i64 0), AV.v (.slice none 0 0)] 0 [.v (.string (gt7 ts i).nm), iv (gt7 ts i).lag, isl (gt7 ts i).xs] = [.v (.string (gt7 ts i).nm), iv (gt7 ts i).lag, isl (gt7 ts i).xs] := splice_all rfl
      repeat' first
       | refine v_seq ?_ | refine v_block ?_ | refine v_ret ?_ | refine v_skip ?_ | (refine v_exit ?_; repeat' first | refine xB_eq ?_ | refine xB_ne rfl ?_)
       | ((first | refine rgA fun K hK => ?_ | refine rgB rfl fun K hK => ?_ | refine rgC rfl fun K hK => ?_); simp only [go_sem,simprocAttr,hd2,n0,hL,hls,g1,e0,q0,q1,q2,q3,q4,q5,y0,y1,y2,y3,y4,y5,y6,y7,r0,r1,r2,r3,hel,htk,hset_at,hset_hset])
       | (simp (disch := first | omega | rfl | (simp only [lnn]; omega)) only [spl])
       | (refine hK _ ?_; clear hK K)
       | (refine gdB_intro (fun h => ?_) (fun h => ?_) <;> simp only [go_sem,simprocAttr,h,hd2,n0,hL,hls,g1,e0,q0,q1,q2,q3,q4,q5,y0,y1,y2,y3,y4,y5,y6,y7,r0,r1,r2,r3,hel,htk,hset_at,hset_hset] <;> (have h' := h; try simp only [bl] at h'))
       | (refine v_cond rfl (fun h => ?_) (fun h => ?_) <;> first | (exact Bool.noConfusion h) | (have h' := h; try simp only [bl] at h'))
       | (refine r_ret ?_; simp only [resL, resA, Tryz.f93, lk_cons', lk_nil', Nat.reduceBEq]; first | exact ⟨rfl, Sb.nil _, rfl⟩ | refine ⟨rfl, sbt ?_, rfl⟩ | refine ⟨rfl, Sb.of_eq ?_, rfl⟩)
       | (refine And.intro (by first | exact True.intro | omega | rfl | exact Nat.le_of_ble_eq_true rfl | (simp only [lnn]; omega) | exact List.forall_mem_nil _ | (refine List.forall_mem_cons.2 ⟨⟨_, rfl⟩, ?_⟩; repeat' first | exact List.forall_mem_nil _ | refine List.forall_mem_cons.2 ⟨⟨_, rfl⟩, ?_⟩)) ?_)
       | (refine m_deviation ts hok n c _ G k i hi2 hG1 (by omega) _ _ ?_ _ ?_; rotate_left; simp only [cmK, go_sem,simprocAttr,hel,htk,q0,q1,q2,q3,q4,q5,y0,y1,y2,y3,y4,y5,y6,y7,r0,r1,r2,r3,hset_at,hset_hset])
       | fail
      · refine ⟨(i + 1, Y + 1 + 1, Y + 1 + 1 + 1), ?_, ⟨by (first | omega | (dsimp only; omega)), by (first | omega | (dsimp only; omega)), by (first | omega | (dsimp only; omega))⟩, by (first | omega | (dsimp only; omega))⟩
        have w0 : (Y + 1 + 1 == 0) = false := beq_ne (by omega)
        have w1 : (Y + 1 + 1 == 1) = false := beq_ne (by omega)
        have w2 : (Y + 1 + 1 == R) = false := beq_ne (by omega)
        dsimp only
        rw [← devTo_succ]
        have htk2 : List.take i (devTo ts G k i) = devTo ts G k i := List.take_of_length_le (Nat.le_of_eq hel)
        exact ent_rows _ (by (repeat' first | exact trivial | refine ⟨?_, ?_⟩ | rfl)) rfl ⟨⟨by simp [hset', w0, q0, y0, r0], by (first | omega | (dsimp only; omega))⟩, ⟨by simp [hset', w1, q1, y1, r1], by (first | omega | (dsimp only; omega))⟩, ⟨by simp [hset', w2, q2, y2, q5, y6, r2, r3], by (first | omega | (dsimp only; omega))⟩, ⟨by simp [hset', htk2], by (first | omega | (dsimp only; omega))⟩, True.intro⟩ (Nat.le_refl _)
      · intro j hj
        repeat (first | exact rfl | refine hset_none (by omega) ?_)
    · obtain rfl : i = ts.length := by omega
      have hd2 : decide ((ts.length : Int) < ts.length) = false := decide_eq_false (by omega)
      have hrl := devRow_len ts G k
      refine vc_ent ((ent_freezeH r (c := ints (devTo ts G k ts.length)) (by simp [hls, hset', q3, q4, q5]) (ints_plain _)).trans (ent_rows (fr := [(1, .pt [tsl ts, iv n, iv G, iv c] 0), (2, .lp 0 0), (4, .lp 1 0), (7, iv ((k * G : Nat) : Int)), (8, .sl 1 ts.length (ints (devRow ts G k))), (68, iv ts.length), (69, iv ts.length)]) [(0, [.v (.slice none 0 0), iv 0, iv 0, iv 0, .v (.slice none 0 0)]), (1, [tsl ts, iv n, iv G, iv c, .ls R 0 1 k]), (R, devC ts G k)] ?_ rfl ?_ (Nat.le_refl _))) ?_
      · have hle : 0 + ts.length * 1 ≤ (ints (devTo ts G k ts.length)).length := by rw [ints_length, hel]; omega
        have htk1 : List.take (ts.length * 1) (List.drop 0 (ints (devTo ts G k ts.length))) = ints (devRow ts G k) := by rw [Nat.mul_one]; exact htk
        simp only [fzF, AV.fz, tsl, isl, iv, beq_self_eq_true, cond_true, cond_false, q0, q1, if_pos hle, htk1]
        (repeat' first | exact trivial | refine ⟨?_, ?_⟩ | rfl)
      · refine ⟨⟨?_, by (first | omega | (dsimp only; omega))⟩, ⟨?_, by (first | omega | (dsimp only; omega))⟩, ⟨?_, by (first | omega | (dsimp only; omega))⟩, True.intro⟩
        · simp [hfz, hls, hset', q0, AV.fz]
        · simp [hfz, hls, hset', q1, q2, AV.fz]
        · simp [hfz, hls, hset', q2, r2, r3, devC_fz]
      have kcf := c_ContainsFunc (fun n => n != -1) (devRow ts G k) 144 (by unfold Len; omega) c_open1
      unfold isl at kcf
      rw [gap_any, hrl] at kcf
      have hon : oneL [AV.sl 1 ts.length (ints (devRow ts G k))] = true := rfl
      have htk3 : List.take k (devC ts G k) = devC ts G k := List.take_of_length_le (Nat.le_of_eq hdl)
      cases hgp : gap7 ts G k
      · have hlt : k < kg := by
          rcases Nat.lt_or_ge k kg with h | h
          · exact h
          · obtain rfl : k = kg := by omega
            rw [hend hk2] at hgp; cases hgp
        rw [hgp] at kcf
        repeat' first
         | refine v_seq ?_ | refine v_block ?_ | refine v_ret ?_ | refine v_skip ?_ | (refine v_exit ?_; repeat' first | refine xB_eq ?_ | refine xB_ne rfl ?_)
         | ((first | refine rgA fun K hK => ?_ | refine rgB rfl fun K hK => ?_ | refine rgC rfl fun K hK => ?_); simp only [go_sem,simprocAttr,hd2,n0,hls,r0,r1,r2,r3,q0,q1,y0,y1,y2,y4,y5,y6,hdl,hdo,htk3,hon,hset_at,hset_hset])
         | (simp (disch := first | omega | rfl | (simp only [lnn]; omega)) only [spl])
         | (refine hK _ ?_; clear hK K)
         | (refine gdB_intro (fun h => ?_) (fun h => ?_) <;> simp only [go_sem,simprocAttr,h,hd2,n0,hls,r0,r1,r2,r3,q0,q1,y0,y1,y2,y4,y5,y6,hdl,hdo,htk3,hon,hset_at,hset_hset] <;> (have h' := h; try simp only [bl] at h'))
         | (refine v_cond rfl (fun h => ?_) (fun h => ?_) <;> first | (exact Bool.noConfusion h) | (have h' := h; try simp only [bl] at h'))
         | (refine r_ret ?_; simp only [resL, resA, Tryz.f93, lk_cons', lk_nil', Nat.reduceBEq]; first | exact ⟨rfl, Sb.nil _, rfl⟩ | refine ⟨rfl, sbt ?_, rfl⟩ | refine ⟨rfl, Sb.of_eq ?_, rfl⟩)
         | (refine And.intro (by first | exact True.intro | omega | rfl | exact Nat.le_of_ble_eq_true rfl | (simp only [lnn]; omega) | exact List.forall_mem_nil _ | (refine List.forall_mem_cons.2 ⟨⟨_, rfl⟩, ?_⟩; repeat' first | exact List.forall_mem_nil _ | refine List.forall_mem_cons.2 ⟨⟨_, rfl⟩, ?_⟩)) ?_)
         | ((first | refine call_pure' (kcf) rfl ?_); simp only [go_sem,simprocAttr,hd2,n0,hls,r0,r1,r2,r3,q0,q1,y0,y1,y2,y4,y5,y6,hdl,hdo,htk3,hon,hset_at,hset_hset])
         | (simp only [htk3, hdo, hon])
         | fail
        refine ⟨(k + 1, Y, Y + 1), ?_, ⟨by (first | omega | (dsimp only; omega)), by (first | omega | (dsimp only; omega)), by (first | omega | (dsimp only; omega))⟩, by (first | omega | (dsimp only; omega))⟩
        dsimp only
        rw [show (((k + 1) * G : Nat) : Int) = ((k * G : Nat) : Int) + (G : Int) by rw [Nat.succ_mul]; omega, ← devC_succ]
        have hrl2 : isl (devRow ts G k) = .sl 1 ts.length (ints (devRow ts G k)) := by unfold isl; rw [hrl]
        rw [hrl2]
        refine ent_rows _ (by (repeat' first | exact trivial | refine ⟨?_, ?_⟩ | rfl)) rfl ⟨⟨by simp [hset', y0, r0, y1, y4, y5], by (first | omega | (dsimp only; omega))⟩, ⟨?_, by (first | omega | (dsimp only; omega))⟩, ⟨by simp [hset', y0, y1, y4, y5], by (first | omega | (dsimp only; omega))⟩, True.intro⟩ (Nat.le_refl _)
        simp only [hset', beq_self_eq_true]
        rfl
      · obtain rfl : k = kg := by
          rcases Nat.lt_or_ge k kg with h | h
          · rw [hfirst k h] at hgp; cases hgp
          · omega
        rw [hgp] at kcf
        rw [show (k == KK) = false from beq_ne (by omega)]
        repeat' first
         | refine v_seq ?_ | refine v_block ?_ | refine v_ret ?_ | refine v_skip ?_ | (refine v_exit ?_; repeat' first | refine xB_eq ?_ | refine xB_ne rfl ?_)
         | ((first | refine rgA fun K hK => ?_ | refine rgB rfl fun K hK => ?_ | refine rgC rfl fun K hK => ?_); simp only [go_sem,simprocAttr,hd2,n0,hls,r0,r1,r2,r3,hset_at,hset_hset])
         | (simp (disch := first | omega | rfl | (simp only [lnn]; omega)) only [spl])
         | (refine hK _ ?_; clear hK K)
         | (refine gdB_intro (fun h => ?_) (fun h => ?_) <;> simp only [go_sem,simprocAttr,h,hd2,n0,hls,r0,r1,r2,r3,hset_at,hset_hset] <;> (have h' := h; try simp only [bl] at h'))
         | (refine v_cond rfl (fun h => ?_) (fun h => ?_) <;> first | (exact Bool.noConfusion h) | (have h' := h; try simp only [bl] at h'))
         | (refine r_ret ?_; simp only [resL, resA, Tryz.f93, lk_cons', lk_nil', Nat.reduceBEq]; first | exact ⟨rfl, Sb.nil _, rfl⟩ | refine ⟨rfl, sbt ?_, rfl⟩ | refine ⟨rfl, Sb.of_eq ?_, rfl⟩)
         | (refine And.intro (by first | exact True.intro | omega | rfl | exact Nat.le_of_ble_eq_true rfl | (simp only [lnn]; omega) | exact List.forall_mem_nil _ | (refine List.forall_mem_cons.2 ⟨⟨_, rfl⟩, ?_⟩; repeat' first | exact List.forall_mem_nil _ | refine List.forall_mem_cons.2 ⟨⟨_, rfl⟩, ?_⟩)) ?_)
         | ((first | refine call_pure' (kcf) rfl ?_); simp only [go_sem,simprocAttr,hd2,n0,hls,r0,r1,r2,r3,hset_at,hset_hset])
         | fail
        refine r_freezeH R (c := devC ts G k) (by simp [hset', r2, r3]) (devC_plain _ _ _) (r_ret ?_)
        have hle : 0 + k * 1 ≤ (devC ts G k).length := by rw [hdl]; omega
        have fzD : AV.fz R (devC ts G k) (.ls R 0 1 k) = .sl 1 k (devC ts G k) := by
          simp only [AV.fz, beq_self_eq_true, cond_true, if_pos hle, List.drop_zero]
          rw [List.take_of_length_le (by rw [hdl]; omega)]
        have fzL : AV.fz R (devC ts G k) (.lp 0 0) = .lp 0 0 := by simp only [AV.fz, r0, cond_false]
        simp only [resL, resA, Tryz.f93, go_sem,simprocAttr,fzF,hfz,hset_at,r0,r1,r2,r3,spl5,fzD,fzL,fz_sl,fz_other]
        exact Sb.refl _
  · obtain rfl : k = KK := by omega
    obtain rfl : k = kg := by omega
    have hd : decide (((k * G : Nat) : Int) < n) = false := decide_eq_false (by omega)
    rw [beq_self_eq_true]
    repeat' first
     | refine v_seq ?_ | refine v_block ?_ | refine v_ret ?_ | refine v_skip ?_ | (refine v_exit ?_; repeat' first | refine xB_eq ?_ | refine xB_ne rfl ?_)
     | ((first | refine rgA fun K hK => ?_ | refine rgB rfl fun K hK => ?_ | refine rgC rfl fun K hK => ?_); simp only [go_sem,simprocAttr,hd,n0,hls,r0,r1,r2,r3,hset_at,hset_hset])
     | (simp (disch := first | omega | rfl | (simp only [lnn]; omega)) only [spl])
     | (refine hK _ ?_; clear hK K)
     | (refine gdB_intro (fun h => ?_) (fun h => ?_) <;> simp only [go_sem,simprocAttr,h,hd,n0,hls,r0,r1,r2,r3,hset_at,hset_hset] <;> (have h' := h; try simp only [bl] at h'))
     | (refine v_cond rfl (fun h => ?_) (fun h => ?_) <;> first | (exact Bool.noConfusion h) | (have h' := h; try simp only [bl] at h'))
     | (refine r_ret ?_; simp only [resL, resA, Tryz.f93, lk_cons', lk_nil', Nat.reduceBEq]; first | exact ⟨rfl, Sb.nil _, rfl⟩ | refine ⟨rfl, sbt ?_, rfl⟩ | refine ⟨rfl, Sb.of_eq ?_, rfl⟩)
     | (refine And.intro (by first | exact True.intro | omega | rfl | exact Nat.le_of_ble_eq_true rfl | (simp only [lnn]; omega) | exact List.forall_mem_nil _ | (refine List.forall_mem_cons.2 ⟨⟨_, rfl⟩, ?_⟩; repeat' first | exact List.forall_mem_nil _ | refine List.forall_mem_cons.2 ⟨⟨_, rfl⟩, ?_⟩)) ?_)
     | fail
    refine r_freezeH R (c := devC ts G k) (by simp [hset', r2, r3]) (devC_plain _ _ _) (r_ret ?_)
    have hle : 0 + k * 1 ≤ (devC ts G k).length := by rw [hdl]; omega
    have fzD : AV.fz R (devC ts G k) (.ls R 0 1 k) = .sl 1 k (devC ts G k) := by
      simp only [AV.fz, beq_self_eq_true, cond_true, if_pos hle, List.drop_zero]
      rw [List.take_of_length_le (by rw [hdl]; omega)]
    have fzL : AV.fz R (devC ts G k) (.lp 0 0) = .lp 0 0 := by simp only [AV.fz, r0, cond_false]
    simp only [resL, resA, Tryz.f93, go_sem,simprocAttr,fzF,hfz,hset_at,r0,r1,r2,r3,spl5,fzD,fzL,fz_sl,fz_other]
    exact Sb.refl _
theorem c_openE (ts : List Tf) (n g c : Int) (hl : Len ts.length) (hn : ∀ i, i < ts.length → Len (gt7 ts i).nm.size ∧ Len (gt7 ts i).xs.length) (h : tkE1 ts n g c ≠ 0 ∨ tkE2 n g ≠ 0) :
    Pure Tryz.prog 93 [tkA ts n g c] (.tu [tkX ts n g c g.toNat 0, iv (bif tkE1 ts n g c != 0 then tkE1 ts n g c else tkE2 n g)]) := by
  have hpl : plainL [tsl ts, iv n, iv g, iv c, AV.v (.slice none 0 0)] = true := by simp [plainL, AV.plain, tcs_plain]
  have kc := c_CheckTransfers ts hl hn
  have k1 := c_first [(ckT ts).2, lengthE n, unlessE (within g 1 n && within c 0 1000000) 2] (len_lit rfl)
  change Pure _ _ _ (iv (tkE1 ts n g c)) at k1
  have n0 : ((0 : Nat) : Int) = 0 := rfl
  unfold tkA
  cases hz : tkE1 ts n g c != 0
  · have h1 : tkE1 ts n g c = 0 := by simpa using hz
    obtain ⟨_, hnb, hgb, _⟩ := tkE1_zero h1
    have hz2 : (tkE2 n g != 0) = true := by
      rcases h with h | h
      · exact absurd h1 h
      · simpa using h
    have hw : (within g 1 n && within c 0 1000000) = true := unlessE_zero (by decide) (firstE_zero h1 (unlessE (within g 1 n && within c 0 1000000) 2) (by simp))
    have hw1 : within g 1 n = true := by simp only [Bool.and_eq_true] at hw; exact hw.1
    have hw2 : within c 0 1000000 = true := by simp only [Bool.and_eq_true] at hw; exact hw.2
    have k2 := c_first [unlessE (n.tmod g == 0) 10, unlessE (decide (n.tdiv g ≤ 20)) 8] (len_lit rfl)
    change Pure _ _ _ (iv (tkE2 n g)) at k2
    have htd := tdiv_bound (n := n) (b := g) (c := 200) (by omega) (by omega)
    rw [h1, hw] at k1
    generalize (ckT ts).1 = z1 at *
    refine p_intro evOk [2, 4, 8, 10, 77] Tryz.func93 rfl Tryz.call93 ?_
    repeat' first
     | refine v_seq ?_ | refine v_block ?_ | refine v_ret ?_ | refine v_skip ?_ | (refine v_exit ?_; repeat' first | refine xB_eq ?_ | refine xB_ne rfl ?_)
     | ((first | refine rgA fun K hK => ?_ | refine rgB rfl fun K hK => ?_ | refine rgC rfl fun K hK => ?_); simp only [go_sem,simprocAttr,hw1,hw2,hz2,n0,bne_self_eq_false,beq_self_eq_true,hset_at,hset_hset])
     | (simp (disch := first | omega | rfl | (simp only [lnn]; omega)) only [spl])
     | (refine hK _ ?_; clear hK K)
     | (refine gdB_intro (fun h => ?_) (fun h => ?_) <;> simp only [go_sem,simprocAttr,h,hw1,hw2,hz2,n0,bne_self_eq_false,beq_self_eq_true,hset_at,hset_hset] <;> (have h' := h; try simp only [bl] at h'))
     | (refine v_cond rfl (fun h => ?_) (fun h => ?_) <;> first | (exact Bool.noConfusion h) | (have h' := h; try simp only [bl] at h'))
     | (refine r_ret ?_; simp only [resL, resA, Tryz.f93, lk_cons', lk_nil', Nat.reduceBEq]; first | exact ⟨rfl, Sb.nil _, rfl⟩ | refine ⟨rfl, sbt ?_, rfl⟩ | refine ⟨rfl, Sb.of_eq ?_, rfl⟩)
     | (refine And.intro (by first | exact True.intro | omega | rfl | exact Nat.le_of_ble_eq_true rfl | (simp only [lnn]; omega) | exact List.forall_mem_nil _ | (refine List.forall_mem_cons.2 ⟨⟨_, rfl⟩, ?_⟩; repeat' first | exact List.forall_mem_nil _ | refine List.forall_mem_cons.2 ⟨⟨_, rfl⟩, ?_⟩)) ?_)
     | ((first | refine call_pure' (kc) rfl ?_ | refine call_pure' (c_lengthErr _) rfl ?_ | refine call_pure' (c_within _ _ _) rfl ?_ | refine call_pure' (c_unless _ _) rfl ?_ | refine call_pure' (k1) rfl ?_ | refine call_pure' (k2) rfl ?_); simp only [go_sem,simprocAttr,hw1,hw2,hz2,n0,bne_self_eq_false,beq_self_eq_true,hset_at,hset_hset])
     | fail
    all_goals
      refine r_ret ?_
      simp only [resL, resA, Tryz.f93, go_sem,simprocAttr,hset_at,spl5]
      exact ⟨Nat.le_refl _, hpl, Sb.tuL ⟨Sb.agL ⟨Sb.refl _, Sb.refl _, Sb.refl _, Sb.refl _, Sb.nil 1, True.intro⟩, Sb.of_eq rfl, True.intro⟩⟩
  · have hz3 : (tkE1 ts n g c == 0) = false := by simpa using hz
    generalize (ckT ts).1 = z1 at *
    cases hw1 : within g 1 n <;> cases hw2 : within c 0 1000000
    all_goals
      simp only [hw1, hw2, Bool.and_true, Bool.and_false, Bool.true_and, Bool.false_and] at k1
      refine p_intro evOk [2, 4, 8, 10, 77] Tryz.func93 rfl Tryz.call93 ?_
      repeat' first
       | refine v_seq ?_ | refine v_block ?_ | refine v_ret ?_ | refine v_skip ?_ | (refine v_exit ?_; repeat' first | refine xB_eq ?_ | refine xB_ne rfl ?_)
       | ((first | refine rgA fun K hK => ?_ | refine rgB rfl fun K hK => ?_ | refine rgC rfl fun K hK => ?_); simp only [go_sem,simprocAttr,hw1,hw2,hz,hz3,n0,hset_at,hset_hset])
       | (simp (disch := first | omega | rfl | (simp only [lnn]; omega)) only [spl])
       | (refine hK _ ?_; clear hK K)
       | (refine gdB_intro (fun h => ?_) (fun h => ?_) <;> simp only [go_sem,simprocAttr,h,hw1,hw2,hz,hz3,n0,hset_at,hset_hset] <;> (have h' := h; try simp only [bl] at h'))
       | (refine v_cond rfl (fun h => ?_) (fun h => ?_) <;> first | (exact Bool.noConfusion h) | (have h' := h; try simp only [bl] at h'))
       | (refine r_ret ?_; simp only [resL, resA, Tryz.f93, lk_cons', lk_nil', Nat.reduceBEq]; first | exact ⟨rfl, Sb.nil _, rfl⟩ | refine ⟨rfl, sbt ?_, rfl⟩ | refine ⟨rfl, Sb.of_eq ?_, rfl⟩)
       | (refine And.intro (by first | exact True.intro | omega | rfl | exact Nat.le_of_ble_eq_true rfl | (simp only [lnn]; omega) | exact List.forall_mem_nil _ | (refine List.forall_mem_cons.2 ⟨⟨_, rfl⟩, ?_⟩; repeat' first | exact List.forall_mem_nil _ | refine List.forall_mem_cons.2 ⟨⟨_, rfl⟩, ?_⟩)) ?_)
       | ((first | refine call_pure' (kc) rfl ?_ | refine call_pure' (c_lengthErr _) rfl ?_ | refine call_pure' (c_within _ _ _) rfl ?_ | refine call_pure' (c_unless _ _) rfl ?_ | refine call_pure' (k1) rfl ?_); simp only [go_sem,simprocAttr,hw1,hw2,hz,hz3,n0,hset_at,hset_hset])
       | fail
      all_goals
        refine r_ret ?_
        simp only [resL, resA, Tryz.f93, go_sem,simprocAttr,hset_at,spl5]
        exact ⟨Nat.le_refl _, hpl, Sb.tuL ⟨Sb.agL ⟨Sb.refl _, Sb.refl _, Sb.refl _, Sb.refl _, Sb.nil 1, True.intro⟩, Sb.of_eq rfl, True.intro⟩⟩
theorem c_open (ts : List Tf) (n g c : Int) (hl : Len ts.length) (hn : ∀ i, i < ts.length → Len (gt7 ts i).nm.size ∧ Len (gt7 ts i).xs.length) :
    ∃ m : Nat, Pure Tryz.prog 93 [tkA ts n g c] (.tu [tkX ts n g c g.toNat m, iv (tkE ts n g c)]) ∧ (tkE ts n g c = 0 → TkOk ts n g c (tkK ts n g) g.toNat ∧ m = tkK ts n g ∧ ∀ k, k < tkK ts n g → gap7 ts g.toNat k = false) := by
  unfold tkE
  cases h1 : tkE1 ts n g c != 0
  · have h1' : tkE1 ts n g c = 0 := by simpa using h1
    rw [cond_false]
    cases h2 : tkE2 n g != 0
    · have h2' : tkE2 n g = 0 := by simpa using h2
      have hk := tk_ok h1' h2'
      change TkOk ts n g c (tkK ts n g) g.toNat at hk
      have hg : g = (g.toNat : Int) := hk.gG
      rw [cond_false]
      change ∃ m : Nat, Pure _ _ _ (.tu [_, iv (bif gaps7 ts g.toNat (tkK ts n g) then 14 else 0)]) ∧ ((bif gaps7 ts g.toNat (tkK ts n g) then (14 : Int) else 0) = 0 → _)
      rcases idxP_inv (p := gap7 ts g.toNat) (n := tkK ts n g) with ⟨_, hno⟩ | ⟨i, _, hi, hgi, hbe⟩
      · rw [gaps7_false.2 hno]
        have := c_openG ts n c g.toNat (tkK ts n g) (tkK ts n g) hl hn (by rw [← hg]; exact h1') (by rw [← hg]; exact h2') (by rw [← hg]; exact hk) (Nat.le_refl _) hno (fun h => absurd h (by omega))
        rw [← hg, beq_self_eq_true] at this
        exact ⟨_, this, fun _ => ⟨hk, rfl, hno⟩⟩
      · rw [gaps7_at hi hgi]
        have := c_openG ts n c g.toNat (tkK ts n g) i hl hn (by rw [← hg]; exact h1') (by rw [← hg]; exact h2') (by rw [← hg]; exact hk) (by omega) hbe (fun _ => hgi)
        rw [← hg, show (i == tkK ts n g) = false from beq_ne (by omega)] at this
        exact ⟨_, this, fun h => (by cases h)⟩
    · rw [cond_true]
      have := c_openE ts n g c hl hn (.inr (by simpa using h2))
      rw [h1, cond_false] at this
      exact ⟨_, this, fun h => absurd h (by simpa using h2)⟩
  · rw [cond_true]
    have := c_openE ts n g c hl hn (.inl (by simpa using h1))
    rw [h1, cond_true] at this
    exact ⟨_, this, fun h => absurd h (by simpa using h1)⟩
end Go.Proofs.YtabmhfmglhjmjaaGreatDoor

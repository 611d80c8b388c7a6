import Derived.Test.YtabmhfmglhjmjaaGreatDoorE12
set_option maxRecDepth 100000
set_option maxHeartbeats 4000000
set_option linter.unusedSimpArgs false
set_option linter.unusedVariables false
set_option linter.unusedSectionVars false
namespace Go.Proofs.YtabmhfmglhjmjaaGreatDoor
open Go.Ab Go.RowKit
variable [Dr]
structure Pc where
  fr : Int
  so : Int
  lag : Int
def pcA (p : Pc) : List AV := [iv p.fr, iv p.so, iv p.lag]
def plc (l : List Pc) : List AV := l.flatMap pcA
theorem plc_len (l : List Pc) : (plc l).length = l.length * 3 := fm_len (c := pcA) (fun _ => rfl) l
theorem plc_snoc (l : List Pc) (p : Pc) : plc (l ++ [p]) = plc l ++ [iv p.fr, iv p.so, iv p.lag] := by simp [plc, pcA]
theorem plc_one : ∀ l : List Pc, oneL (plc l) = true
  | [] => rfl
  | p :: l => by
    have := plc_one l
    unfold plc oneL at *
    rw [List.flatMap_cons, List.all_append, this]
    rfl
theorem plc_plain : ∀ l : List Pc, plainL (plc l) = true
  | [] => rfl
  | p :: l => by
    have h := plc_plain l
    unfold plc at h ⊢
    rw [List.flatMap_cons, pcA, List.cons_append, List.cons_append, List.cons_append, List.nil_append]
    simp only [plainL, AV.plain, h, Bool.and_self]
abbrev plS (l : List Pc) : AV := .sl 3 l.length (plc l)
abbrev plA (n : Int) (l : List Pc) : AV := .ag [iv n, plS l]
def pcOf (ts : List Tf) (g : Int) (is : List Int) (k : Nat) : Pc := ⟨k * g, gi is k, (gt7 ts (gi is k).toNat).lag⟩
def pnew (is : List Int) (k : Nat) : Bool := k == 0 || gi is ((k : Int) - 1) != gi is k
def plTo (ts : List Tf) (g : Int) (is : List Int) : Nat → List Pc
  | 0 => []
  | k + 1 => bif pnew is k then plTo ts g is k ++ [pcOf ts g is k] else plTo ts g is k
theorem plTo_len (ts : List Tf) (g : Int) (is : List Int) : ∀ k, (plTo ts g is k).length ≤ k
  | 0 => Nat.le_refl _
  | k + 1 => by
    have := plTo_len ts g is k
    unfold plTo
    cases pnew is k
    · exact Nat.le_succ_of_le this
    · rw [cond_true, List.length_append, List.length_singleton]; omega
theorem c_PlanOk (ts : List Tf) (n g c : Int) (N G : Nat) (l : List ByteArray) (hT : TkOk ts n g c N G) (hl : Len l.length) (hD : Pure Tryz.prog 93 [tkA ts n g c] (.tu [tkX ts n g c G N, iv 0]))
    (he : cErr ts G N l = 0) (hi : ∀ k, k < N → 0 ≤ cIx ts l k ∧ cIx ts l k < ts.length) :
    Pure Tryz.prog 35 [tkA ts n g c, ssl l] (.tu [plA n (plTo ts g (cIxs ts l N) N), iv 0]) := by
  have h6 := hT.ok.n6
  have hK20 := hT.K20
  have hdC := devC_len ts G N
  have hTl := tcs_len ts
  have kch := c_chosen ts n g c G N l (by unfold Len; omega) (by unfold Len; omega) hl
  rw [he] at kch
  change Pure _ _ _ (.tu [isl (cIxs ts l N), iv 0]) at kch
  have hcl := cIxs_len ts l N
  have hbx : ((0 : Int) != 0) = false := rfl
  have htk5 : ∀ a b c d e : AV, List.take 5 [a, b, c, d, e] = [a, b, c, d, e] := fun _ _ _ _ _ => rfl
  have hp5 : plainL [tsl ts, iv n, iv g, iv c, .sl 1 N (devC ts G N)] = true := by simp [plainL, AV.plain, tsl, tcs_plain, devC_plain]
  unfold tkA tkX at *
  refine p_intro evOk [4, 6, 9] Tryz.func35 rfl Tryz.call35 ?_
  repeat' first
   | refine v_seq ?_ | refine v_block ?_ | refine v_ret ?_ | refine v_skip ?_ | (refine v_exit ?_; repeat' first | refine xB_eq ?_ | refine xB_ne rfl ?_)
   | ((first | refine rgA fun K hK => ?_ | refine rgB rfl fun K hK => ?_ | refine rgC rfl fun K hK => ?_); simp only [go_sem,simprocAttr,hbx,hset_at,hset_hset,spl5,htk5])
   | (simp (disch := first | omega | rfl | (simp only [lnn]; omega)) only [spl])
   | (refine hK _ ?_; clear hK K)
   | (refine gdB_intro (fun h => ?_) (fun h => ?_) <;> simp only [go_sem,simprocAttr,h,hbx,hset_at,hset_hset,spl5,htk5] <;> (have h' := h; try simp only [bl] at h'))
   | (refine v_cond rfl (fun h => ?_) (fun h => ?_) <;> first | (exact Bool.noConfusion h) | (have h' := h; try simp only [bl] at h'))
   | (refine r_ret ?_; simp only [resL, resA, Tryz.f35, lk_cons', lk_nil', Nat.reduceBEq]; first | exact ⟨rfl, Sb.nil _, rfl⟩ | refine ⟨rfl, sbt ?_, rfl⟩ | refine ⟨rfl, Sb.of_eq ?_, rfl⟩)
   | (refine And.intro (by first | exact True.intro | omega | rfl | exact Nat.le_of_ble_eq_true rfl | (simp only [lnn]; omega) | exact List.forall_mem_nil _ | (refine List.forall_mem_cons.2 ⟨⟨_, rfl⟩, ?_⟩; repeat' first | exact List.forall_mem_nil _ | refine List.forall_mem_cons.2 ⟨⟨_, rfl⟩, ?_⟩)) ?_)
   | ((first | refine call_pure' (hD) rfl ?_ | refine call_pure' (kch) rfl ?_); simp only [go_sem,simprocAttr,hbx,hset_at,hset_hset,spl5,htk5])
   | fail
  generalize his : cIxs ts l N = is at *
  refine vc_ent (ent_rows (fr := [(2, .pt [tsl ts, iv n, iv g, iv c] 0), (4, .lp 0 0), (8, isl is), (9, .lp 2 0), (34, isl is), (35, iv is.length), (36, iv 0)]) [(0, [iv 0, .v (.slice none 0 0)]), (2, [iv n, .v (.slice none 0 0)])] (by (repeat' first | exact trivial | refine ⟨?_, ?_⟩ | rfl)) rfl ⟨⟨by simp [hset'], by (first | omega | (dsimp only; omega))⟩, ⟨by simp [hset', splice], by (first | omega | (dsimp only; omega))⟩, True.intro⟩ (Nat.le_refl _)) ?_
  refine vc_ent (ent_nil_cell 2 1 3 (c := [iv n, .v (.slice none 0 0)]) (by simp [hls, hset']) rfl) ?_
  refine v_loop (T := Nat × Nat × Nat) (fun x => ⟨[(2, .pt [tsl ts, iv n, iv g, iv c] 0), (4, .lp 0 0), (8, isl is), (9, .lp 2 0), (34, isl is), (35, iv is.length), (36, iv x.1)], hls [(0, [iv 0, .v (.slice none 0 0)]), (2, [iv n, .ls x.2.1 0 3 (plTo ts g is x.1).length]), (x.2.1, plc (plTo ts g is x.1))], x.2.2, (71, 0, 0)⟩) (fun x => x.1 ≤ N ∧ 3 ≤ x.2.1 ∧ x.2.1 < x.2.2) (fun x => N - x.1) (0, 3, 4) ⟨by (first | omega | (dsimp only; omega)), by (first | omega | (dsimp only; omega)), by (first | omega | (dsimp only; omega))⟩ ?_ ?_
  · exact ent_rows _ (by (repeat' first | exact trivial | refine ⟨?_, ?_⟩ | rfl)) rfl ⟨⟨by simp [hset', hls], by (first | omega | (dsimp only; omega))⟩, ⟨by simp [hset', hls, plTo], by (first | omega | (dsimp only; omega))⟩, ⟨by simp [hset', hls, plTo, plc], by (first | omega | (dsimp only; omega))⟩, True.intro⟩ (Nat.le_refl _)
  rintro ⟨k, r, Y⟩ ⟨hk, hr, hrY⟩
  dsimp only at hk hr hrY ⊢
  have q0 : (r == 0) = false := beq_ne (by omega)
  have q1 : (0 == r) = false := beq_ne (by omega)
  have q2 : (r == 2) = false := beq_ne (by omega)
  have q3 : (2 == r) = false := beq_ne (by omega)
  have y0 : (Y == 0) = false := beq_ne (by omega)
  have y1 : (0 == Y) = false := beq_ne (by omega)
  have y2 : (Y == 2) = false := beq_ne (by omega)
  have y3 : (2 == Y) = false := beq_ne (by omega)
  have y4 : (Y == r) = false := beq_ne (by omega)
  have y5 : (r == Y) = false := beq_ne (by omega)
  have r0 : (0 == 2) = false := rfl
  have r1 : (2 == 0) = false := rfl
  have hpl := plTo_len ts g is k
  have hpc := plc_len (plTo ts g is k)
  have hpo := plc_one (plTo ts g is k)
  have htk : List.take ((plTo ts g is k).length * 3) (plc (plTo ts g is k)) = plc (plTo ts g is k) := List.take_of_length_le (by omega)
  by_cases hk2 : k < N
  · have hd : decide ((k : Int) < is.length) = true := decide_eq_true (by omega)
    have hik := hi k hk2
    obtain ⟨i, hix⟩ : ∃ i : Nat, cIx ts l k = i := ⟨(cIx ts l k).toNat, by omega⟩
    have hgk : gi is (k : Nat) = (i : Nat) := by rw [← his, gi_cIxs hk2, hix]
    have hiT : i < ts.length := by omega
    have t1 : (tcs ts)[((i : Nat) : Int).toNat * 3 + 1]? = some (iv (gt7 ts i).lag) := tcs_1 hiT
    have hsu : plTo ts g is (k + 1) = bif pnew is k then plTo ts g is k ++ [pcOf ts g is k] else plTo ts g is k := rfl
    have hkg : 0 ≤ (k : Int) * g ∧ (k : Int) * g ≤ 200 := by
      have h1 := hT.gG
      have h2 := hT.KG
      have h3 := hT.nb
      have h4 : (k : Int) * G ≤ (N : Int) * G := Int.mul_le_mul_of_nonneg_right (by omega) (by omega)
      have h5 : 0 ≤ (k : Int) * G := Int.mul_nonneg (by omega) (by omega)
      rw [h1]
      omega
    have hpo2 : pcOf ts g is k = ⟨(k : Int) * g, (i : Nat), (gt7 ts i).lag⟩ := by unfold pcOf; rw [hgk, Int.toNat_natCast]
    repeat' first
     | refine v_seq ?_ | refine v_block ?_ | refine v_ret ?_ | refine v_skip ?_ | (refine v_exit ?_; repeat' first | refine xB_eq ?_ | refine xB_ne rfl ?_)
     | ((first | refine rgA fun K hK => ?_ | refine rgB rfl fun K hK => ?_ | refine rgC rfl fun K hK => ?_); simp only [go_sem,simprocAttr,hd,hls,hgk,t1,hset_at,hset_hset,hpc,hpo,htk,q0,q1,q2,q3,y0,y1,y2,y3,y4,y5,r0,r1])
     | (simp (disch := first | omega | rfl | (simp only [lnn]; omega)) only [spl])
     | (refine hK _ ?_; clear hK K)
     | (refine gdB_intro (fun h => ?_) (fun h => ?_) <;> simp only [go_sem,simprocAttr,h,hd,hls,hgk,t1,hset_at,hset_hset,hpc,hpo,htk,q0,q1,q2,q3,y0,y1,y2,y3,y4,y5,r0,r1] <;> (have h' := h; try simp only [bl] at h'))
     | (refine v_cond rfl (fun h => ?_) (fun h => ?_) <;> first | (exact Bool.noConfusion h) | (have h' := h; try simp only [bl] at h'))
     | (refine r_ret ?_; simp only [resL, resA, Tryz.f35, lk_cons', lk_nil', Nat.reduceBEq]; first | exact ⟨rfl, Sb.nil _, rfl⟩ | refine ⟨rfl, sbt ?_, rfl⟩ | refine ⟨rfl, Sb.of_eq ?_, rfl⟩)
     | (refine And.intro (by first | exact True.intro | omega | rfl | exact Nat.le_of_ble_eq_true rfl | (simp only [lnn]; omega) | exact List.forall_mem_nil _ | (refine List.forall_mem_cons.2 ⟨⟨_, rfl⟩, ?_⟩; repeat' first | exact List.forall_mem_nil _ | refine List.forall_mem_cons.2 ⟨⟨_, rfl⟩, ?_⟩)) ?_)
     | (simp only [go_sem,simprocAttr,t1,tsl,htk,hpc,hpo,hset_at,hset_hset,q0,q1,q2,q3,y0,y1,y2,y3,y4,y5,r0,r1])
     | (simp only [htk])
     | fail
    all_goals
      first
      | (have hpn : pnew is k = true := by
          have : (k : Int) = 0 ∨ gi is ((k : Int) - 1) ≠ gi is (k : Nat) := by omega
          unfold pnew
          rcases this with h1 | h1
          · rw [show (k == 0) = true by simp; omega]; rfl
          · rw [show (gi is ((k : Int) - 1) != gi is (k : Nat)) = true by simpa using h1, Bool.or_true]
         refine ⟨(k + 1, Y, Y + 1), ?_, ⟨by (first | omega | (dsimp only; omega)), by (first | omega | (dsimp only; omega)), by (first | omega | (dsimp only; omega))⟩, by (first | omega | (dsimp only; omega))⟩
         dsimp only
         rw [hsu, hpn, cond_true, hpo2, plc_snoc, List.length_append, List.length_singleton]
         exact ent_rows _ (by (repeat' first | exact trivial | refine ⟨?_, ?_⟩ | rfl)) rfl ⟨⟨by simp [hset', q0, y0, y1, r0, r1], by (first | omega | (dsimp only; omega))⟩, ⟨by simp [hset', q2, y2, y3, r0, r1, splice], by (first | omega | (dsimp only; omega))⟩, ⟨by simp [hset', htk, y2, y3, splice], by (first | omega | (dsimp only; omega))⟩, True.intro⟩ (Nat.le_refl _))
      | (have hpn : pnew is k = false := by
          have : (k : Int) ≠ 0 ∧ gi is ((k : Int) - 1) = gi is (k : Nat) := by omega
          unfold pnew
          rw [this.2, show (k == 0) = false from beq_ne (by omega)]
          simp
         refine ⟨(k + 1, r, Y), ?_, ⟨by (first | omega | (dsimp only; omega)), by (first | omega | (dsimp only; omega)), by (first | omega | (dsimp only; omega))⟩, by (first | omega | (dsimp only; omega))⟩
         dsimp only
         rw [hsu, hpn, cond_false]
         exact ent_rows _ (by (repeat' first | exact trivial | refine ⟨?_, ?_⟩ | rfl)) rfl ⟨⟨by simp [hset', q0, q1, r0, r1], by (first | omega | (dsimp only; omega))⟩, ⟨by simp [hset', q2, q3, r0, r1], by (first | omega | (dsimp only; omega))⟩, ⟨by simp [hset', q0, q1, q2, q3], by (first | omega | (dsimp only; omega))⟩, True.intro⟩ (Nat.le_refl _))
  · obtain rfl : k = N := by omega
    have hd : decide ((k : Int) < is.length) = false := decide_eq_false (by omega)
    repeat' first
     | refine v_seq ?_ | refine v_block ?_ | refine v_ret ?_ | refine v_skip ?_ | (refine v_exit ?_; repeat' first | refine xB_eq ?_ | refine xB_ne rfl ?_)
     | ((first | refine rgA fun K hK => ?_ | refine rgB rfl fun K hK => ?_ | refine rgC rfl fun K hK => ?_); simp only [go_sem,simprocAttr,hd,hls,r0,r1,q0,q1,q2,q3,hset_at,hset_hset])
     | (simp (disch := first | omega | rfl | (simp only [lnn]; omega)) only [spl])
     | (refine hK _ ?_; clear hK K)
     | (refine gdB_intro (fun h => ?_) (fun h => ?_) <;> simp only [go_sem,simprocAttr,h,hd,hls,r0,r1,q0,q1,q2,q3,hset_at,hset_hset] <;> (have h' := h; try simp only [bl] at h'))
     | (refine v_cond rfl (fun h => ?_) (fun h => ?_) <;> first | (exact Bool.noConfusion h) | (have h' := h; try simp only [bl] at h'))
     | (refine r_ret ?_; simp only [resL, resA, Tryz.f35, lk_cons', lk_nil', Nat.reduceBEq]; first | exact ⟨rfl, Sb.nil _, rfl⟩ | refine ⟨rfl, sbt ?_, rfl⟩ | refine ⟨rfl, Sb.of_eq ?_, rfl⟩)
     | (refine And.intro (by first | exact True.intro | omega | rfl | exact Nat.le_of_ble_eq_true rfl | (simp only [lnn]; omega) | exact List.forall_mem_nil _ | (refine List.forall_mem_cons.2 ⟨⟨_, rfl⟩, ?_⟩; repeat' first | exact List.forall_mem_nil _ | refine List.forall_mem_cons.2 ⟨⟨_, rfl⟩, ?_⟩)) ?_)
     | fail
    refine r_freezeH r (c := plc (plTo ts g is k)) (by simp [hset', q0, q1, q2, q3]) (plc_plain _) (r_ret ?_)
    have hle : 0 + (plTo ts g is k).length * 3 ≤ (plc (plTo ts g is k)).length := by omega
    have fzD : AV.fz r (plc (plTo ts g is k)) (.ls r 0 3 (plTo ts g is k).length) = plS (plTo ts g is k) := by
      simp only [AV.fz, beq_self_eq_true, cond_true, if_pos hle, List.drop_zero, htk]
    have fzL : AV.fz r (plc (plTo ts g is k)) (.lp 0 0) = .lp 0 0 := by simp only [AV.fz, q0, cond_false]
    have sp2 : ∀ a b x y : AV, splice [a, b] 0 [x, y] = [x, y] := fun _ _ _ _ => rfl
    simp only [resL, resA, Tryz.f35, go_sem,simprocAttr,fzF,hfz,hset_at,hset_hset,q0,q1,q2,q3,r0,r1,sp2,fzD,fzL,fz_sl,fz_other]
    exact Sb.refl _
end Go.Proofs.YtabmhfmglhjmjaaGreatDoor
set_option maxRecDepth 100000
set_option maxHeartbeats 4000000
set_option linter.unusedSimpArgs false
set_option linter.unusedVariables false
set_option linter.unusedSectionVars false
namespace Go.Proofs.YtabmhfmglhjmjaaGreatDoor
open Go.Ab Go.RowKit
variable [Dr]
def gpT (l : List Pc) (i : Nat) : Pc := l.getD i ⟨0, 0, 0⟩
theorem plc_atT {l : List Pc} {i : Nat} (h : i < l.length) : ((plc l).drop (i * 3)).take 3 = [iv (gpT l i).fr, iv (gpT l i).so, iv (gpT l i).lag] := by
  unfold plc
  rw [fm_at (c := pcA) (k := 3) (fun _ => rfl) h]
  simp [gpT, h, pcA]
end Go.Proofs.YtabmhfmglhjmjaaGreatDoor

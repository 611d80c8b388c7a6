import Derived.Test.YtabmhfmglhjmjaaGreatDoorE38
import Derived.Test.YtabmhfmglhjmjaaGreatDoorE26
import Derived.Test.YtabmhfmglhjmjaaGreatDoorS07k
set_option maxRecDepth 100000
set_option maxHeartbeats 4000000
set_option linter.unusedSimpArgs false
set_option linter.unusedVariables false
set_option linter.unusedSectionVars false
namespace Go.Proofs.YtabmhfmglhjmjaaGreatDoor
open Go.Ab Go.RowKit
variable [Dr]
theorem gpT_snoc_lt {l : List Pc} {x : Pc} {i : Nat} (h : i < l.length) : gpT (l ++ [x]) i = gpT l i := by
  simp [gpT, List.getD_eq_getElem?_getD, List.getElem?_append_left h]
theorem gpT_snoc_at {l : List Pc} {x : Pc} {i : Nat} (h : i = l.length) : gpT (l ++ [x]) i = x := by
  subst h; simp [gpT]
theorem pcAt_snoc_lt {l : List Pc} {x : Pc} {pos : Int} : ∀ {m : Nat}, m ≤ l.length → pcAt (l ++ [x]) pos m = pcAt l pos m
  | 0, _ => rfl
  | m + 1, h => by rw [pcAt, pcAt, gpT_snoc_lt (by omega), pcAt_snoc_lt (by omega)]
theorem kg_lt {g : Int} (hg : 1 ≤ g) {k m : Nat} (h : k < m) : (k : Int) * g < (m : Int) * g := Int.mul_lt_mul_of_pos_right (by omega) (by omega)
theorem kg_le {g : Int} (hg : 1 ≤ g) {k m : Nat} (h : k ≤ m) : (k : Int) * g ≤ (m : Int) * g := Int.mul_le_mul_of_nonneg_right (by omega) (by omega)
structure PtOk (ts : List Tf) (g : Int) (is : List Int) (m : Nat) : Prop where
  pos : 1 ≤ m → 1 ≤ (plTo ts g is m).length
  z : 1 ≤ m → (gpT (plTo ts g is m) 0).fr = 0
  of : ∀ q, q < (plTo ts g is m).length → ∃ k, k < m ∧ gpT (plTo ts g is m) q = pcOf ts g is k
  up : ∀ q, 1 ≤ q → q < (plTo ts g is m).length → (gpT (plTo ts g is m) (q - 1)).fr < (gpT (plTo ts g is m) q).fr
theorem pt_ok (ts : List Tf) {g : Int} (is : List Int) (hg : 1 ≤ g) : ∀ m, PtOk ts g is m
  | 0 => ⟨fun h => absurd h (by omega), fun h => absurd h (by omega), fun q hq => absurd hq (Nat.not_lt_zero _), fun q _ hq => absurd hq (Nat.not_lt_zero _)⟩
  | m + 1 => by
    have ih := pt_ok ts is hg m
    have hsu : plTo ts g is (m + 1) = bif pnew is m then plTo ts g is m ++ [pcOf ts g is m] else plTo ts g is m := rfl
    cases hp : pnew is m
    · rw [hp, cond_false] at hsu
      have hm : 1 ≤ m := by
        rcases Nat.eq_zero_or_pos m with rfl | h
        · cases hp
        · exact h
      refine ⟨fun _ => by rw [hsu]; exact ih.pos hm, fun _ => by rw [hsu]; exact ih.z hm, fun q hq => ?_, fun q h1 hq => ?_⟩
      · rw [hsu] at hq ⊢
        obtain ⟨k, h1, h2⟩ := ih.of q hq
        exact ⟨k, by omega, h2⟩
      · rw [hsu] at hq ⊢
        exact ih.up q h1 hq
    · rw [hp, cond_true] at hsu
      obtain ⟨l, hl⟩ : ∃ l, plTo ts g is m = l := ⟨_, rfl⟩
      have hlen : (plTo ts g is m ++ [pcOf ts g is m]).length = (plTo ts g is m).length + 1 := by rw [List.length_append, List.length_singleton]
      refine ⟨fun _ => by rw [hsu, hlen]; omega, fun _ => ?_, fun q hq => ?_, fun q h1 hq => ?_⟩
      · rw [hsu]
        rcases Nat.eq_zero_or_pos m with rfl | h
        · have e := gpT_snoc_at (l := plTo ts g is 0) (x := pcOf ts g is 0) (i := 0) rfl
          rw [e]
          show ((0 : Nat) : Int) * g = 0
          rw [Int.natCast_zero, Int.zero_mul]
        · rw [gpT_snoc_lt (ih.pos h)]
          exact ih.z h
      · rw [hsu, hlen] at hq
        rw [hsu]
        by_cases e : q < (plTo ts g is m).length
        · obtain ⟨k, h1, h2⟩ := ih.of q e
          exact ⟨k, by omega, by rw [gpT_snoc_lt e]; exact h2⟩
        · exact ⟨m, by omega, gpT_snoc_at (by omega)⟩
      · rw [hsu, hlen] at hq
        rw [hsu]
        by_cases e : q < (plTo ts g is m).length
        · rw [gpT_snoc_lt e, gpT_snoc_lt (by omega)]
          exact ih.up q h1 e
        · obtain rfl : q = (plTo ts g is m).length := by omega
          rw [gpT_snoc_at rfl, gpT_snoc_lt (by omega)]
          obtain ⟨k, h2, h3⟩ := ih.of ((plTo ts g is m).length - 1) (by omega)
          rw [h3]
          exact kg_lt hg h2
theorem pcAt_pl (ts : List Tf) {g : Int} (is : List Int) (hg : 1 ≤ g) {pos : Int} : ∀ m k : Nat, k < m → (k : Int) * g ≤ pos → (k + 1 < m → pos < ((k + 1 : Nat) : Int) * g) →
    (pcAt (plTo ts g is m) pos (plTo ts g is m).length).so = gi is k ∧ (pcAt (plTo ts g is m) pos (plTo ts g is m).length).lag = (gt7 ts (gi is k).toNat).lag
  | 0, k, hk, _, _ => absurd hk (by omega)
  | m + 1, k, hk, h1, h2 => by
    have ih := pcAt_pl ts is hg (pos := pos) m
    have hsu : plTo ts g is (m + 1) = bif pnew is m then plTo ts g is m ++ [pcOf ts g is m] else plTo ts g is m := rfl
    cases hp : pnew is m
    · rw [hp, cond_false] at hsu
      rw [hsu]
      by_cases e : k < m
      · exact ih k e h1 (fun h => h2 (by omega))
      · obtain rfl : k = m := by omega
        unfold pnew at hp
        rw [Bool.or_eq_false_iff] at hp
        have hk0 : k ≠ 0 := by simpa using hp.1
        have hk1 : gi is ((k : Int) - 1) = gi is k := by simpa using hp.2
        rw [← hk1, show (k : Int) - 1 = ((k - 1 : Nat) : Int) by omega]
        have h3 := kg_le hg (show k - 1 ≤ k by omega)
        exact ih (k - 1) (by omega) (by omega) (fun h => absurd h (by omega))
    · rw [hp, cond_true] at hsu
      rw [hsu, List.length_append, List.length_singleton, pcAt, gpT_snoc_at rfl, pcAt_snoc_lt (Nat.le_refl _)]
      by_cases e : k < m
      · have h3 := kg_le hg (show k + 1 ≤ m by omega)
        have h4 := h2 (by omega)
        have : ¬ (pcOf ts g is m).fr ≤ pos := by
          show ¬ (m : Int) * g ≤ pos
          omega
        rw [decide_eq_false this, cond_false]
        exact ih k e h1 (fun h => h2 (by omega))
      · obtain rfl : k = m := by omega
        have : (pcOf ts g is k).fr ≤ pos := h1
        rw [decide_eq_true this, cond_true]
        exact ⟨rfl, rfl⟩
theorem ckP_pl {ts : List Tf} {n g c : Int} {N G : Nat} (hT : TkOk ts n g c N G) {is : List Int} (his : ∀ k : Nat, k < N → 0 ≤ gi is k ∧ gi is k < ts.length) : (ckP n (plTo ts g is N)).2 = 0 := by
  have hg : 1 ≤ g := by have := hT.gG; have := hT.G1; omega
  have h := pt_ok ts is hg N
  have hK1 := hT.K1
  have hK20 := hT.K20
  have hn := hT.nb
  have h6 := hT.ok.n6
  have hl1 := h.pos hK1
  have hl2 := plTo_len ts g is N
  have h0 : plE0 n (plTo ts g is N) = 0 := by
    unfold plE0 lengthE
    rw [within_iff.2 hn, decide_eq_true (show (0 : Int) < ((plTo ts g is N).length : Nat) by omega), decide_eq_true (show (((plTo ts g is N).length : Nat) : Int) ≤ 20 by omega)]; rfl
  unfold ckP
  rw [h0, bne_self_eq_false, cond_false, fb7_zero]
  intro q hq
  obtain ⟨k, hk, e⟩ := h.of q hq
  have hi := his k hk
  obtain ⟨i, hii⟩ : ∃ i : Nat, gi is k = i := ⟨(gi is k).toNat, by omega⟩
  have hso : (gpT (plTo ts g is N) q).so = i := by rw [e]; exact hii
  have hlag : (gpT (plTo ts g is N) q).lag = (gt7 ts i).lag := by rw [e]; show (gt7 ts (gi is k).toNat).lag = _; rw [hii, Int.toNat_natCast]
  have hfr : (gpT (plTo ts g is N) q).fr = k * g := by rw [e]; rfl
  have hkn : (k : Int) * g < n := by
    have := kg_lt hg hk
    have hKG := hT.KG
    have hgG := hT.gG
    rw [hKG, ← hgG]; exact this
  have hord : pord (plTo ts g is N) n q = true := by
    unfold pord
    rcases Nat.eq_zero_or_pos q with rfl | hq1
    · rw [h.z hK1]; rfl
    · rw [beq_ne (by omega), cond_false, decide_eq_true (h.up q hq1 hq), hfr, decide_eq_true hkn]; rfl
  unfold pcE
  rw [hso, hlag, hord, within_iff.2 (show (0 : Int) ≤ i ∧ (i : Int) ≤ 5 by omega), within_iff.2 (hT.ok.lag i (by omega))]; rfl
theorem cov_of {ts : List Tf} {g k i : Nat} (h : dvn ts g k i ≠ -1) : cov ts g k i = true := by
  unfold dvn at h
  cases hc : cov ts g k i
  · rw [hc] at h; exact absurd rfl h
  · rfl
theorem jn_pl {ts : List Tf} {n g c : Int} {N G : Nat} (hT : TkOk ts n g c N G) {l : List ByteArray} (he : cErr ts G N l = 0) :
    jnE n (plTo ts g (cIxs ts l N) N) (ts.map Tf.xs) = 0 ∧ ∀ p : Nat, p < n.toNat → p / G < N ∧ hasAt (gt7 ts (cNat ts l (p / G))) (p : Nat) = true ∧ jV (plTo ts g (cIxs ts l N) N) (ts.map Tf.xs) p = smp (gt7 ts (cNat ts l (p / G))) (p : Nat) := by
  obtain ⟨hlN, hall⟩ := cErr_zero he
  have hgG := hT.gG
  have hG1 := hT.G1
  have hnb := hT.nb
  have hKG := hT.KG
  have h6 := hT.ok.n6
  have hnN : n.toNat = N * G := by rw [← Int.natCast_mul] at hKG; omega
  have hg : 1 ≤ g := by omega
  have his : ∀ k : Nat, k < N → gi (cIxs ts l N) k = (cNat ts l k : Nat) ∧ cNat ts l k < ts.length := fun k hk => by
    obtain ⟨a1, a2, _, _⟩ := cEr_ok (hall k hk)
    exact ⟨by rw [gi_cIxs hk, a1], a2⟩
  have hck := ckP_pl hT (is := cIxs ts l N) (fun k hk => by have := his k hk; omega)
  have hss : ∀ i, i < ts.length → gS (ts.map Tf.xs) i = (gt7 ts i).xs := fun i hi => by simp [gS, gt7, hi]
  have hat : ∀ p : Nat, p < n.toNat → p / G < N ∧ hasAt (gt7 ts (cNat ts l (p / G))) (p : Nat) = true ∧ (pcAt (plTo ts g (cIxs ts l N) N) (p : Nat) (plTo ts g (cIxs ts l N) N).length).so = (cNat ts l (p / G) : Nat) ∧ (pcAt (plTo ts g (cIxs ts l N) N) (p : Nat) (plTo ts g (cIxs ts l N) N).length).lag = (gt7 ts (cNat ts l (p / G))).lag := fun p hp => by
    have hk : p / G < N := by rw [Nat.div_lt_iff_lt_mul (by omega)]; omega
    obtain ⟨b1, b2⟩ := his _ hk
    obtain ⟨_, _, a3, _⟩ := cEr_ok (hall _ hk)
    have hdm := Nat.div_add_mod p G
    have hml := Nat.mod_lt p (show 0 < G by omega)
    rw [Nat.mul_comm] at hdm
    have hlo : ((p / G : Nat) : Int) * g ≤ (p : Nat) := by rw [hgG, ← Int.natCast_mul]; omega
    have hhi : ((p : Nat) : Int) < ((p / G + 1 : Nat) : Int) * g := by rw [hgG, ← Int.natCast_mul, Nat.succ_mul]; omega
    obtain ⟨c1, c2⟩ := pcAt_pl ts (cIxs ts l N) hg (pos := (p : Nat)) N (p / G) hk hlo (fun _ => hhi)
    rw [b1] at c1 c2
    rw [Int.toNat_natCast] at c2
    refine ⟨hk, ?_, c1, c2⟩
    have := cov_iff.1 (cov_of a3) (p % G) hml
    rw [hdm] at this
    exact this
  refine ⟨?_, fun p hp => ?_⟩
  · unfold jnE
    rw [hck, bne_self_eq_false, cond_false, List.length_map, decide_eq_false (by omega), cond_false, fb7_zero ts.length (fun i hi => ?_), bne_self_eq_false, cond_false, fb7_zero n.toNat (fun p hp => ?_)]
    · obtain ⟨hk, hh, a1, a2⟩ := hat p hp
      obtain ⟨b1, b2⟩ := his _ hk
      unfold jE
      rw [a1, a2, List.length_map, decide_eq_false (by omega), cond_false, Int.toNat_natCast, hss _ b2]
      unfold hasAt at hh
      rw [hh]; rfl
    · unfold sgE
      rw [hss i hi]
      exact signalErr_of (hT.ok.smp i hi) (hT.ok.len i hi)
  · obtain ⟨hk, hh, a1, a2⟩ := hat p hp
    obtain ⟨b1, b2⟩ := his _ hk
    refine ⟨hk, hh, ?_⟩
    unfold jV
    rw [a1, a2, Int.toNat_natCast, hss _ b2]; rfl
theorem best_perm {ts us : List Tf} {n g c : Int} {N G : Nat} (h : us.Perm ts) (hT : TkOk ts n g c N G) (hg : ∀ k, k < N → gap7 ts G k = false) :
    namA (dvn us G) c N us.length (fun i => (gt7 us i).nm) N = namA (dvn ts G) c N ts.length (fun i => (gt7 ts i).nm) N ∧ total7 (dvn us G) c N us.length = total7 (dvn ts G) c N ts.length := by
  have hd := tk_dp hT hg
  have hd' := tk_dp (hT.perm h) fun k hk => by rw [gap7_perm h]; exact hg k hk
  obtain ⟨σ, hσ, hs⟩ := perm_bij h hT.ok
  rw [h.length_eq] at hd' ⊢
  have hdv : ∀ k i, i < ts.length → dvn us G k i = dvn ts G k (σ i) := fun k i hi => dvn_perm h (hs i hi) G k
  refine ⟨?_, total7_bij hd hσ hdv⟩
  unfold namA
  refine List.map_congr_left fun k hk => ?_
  have hk := List.mem_range.1 hk
  have e := (ch7_bij hd hd' hσ hdv (fun i hi => by rw [hs i hi]) k hk).1
  dsimp only
  rw [← e, hs _ (ch7_ok hd' hk).1]
end Go.Proofs.YtabmhfmglhjmjaaGreatDoor

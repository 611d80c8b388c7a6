/- Parts of the proof, put together by a program. -/
import Derived.Test.YtpdecefdhkhlnaaGreatDoorQak
set_option maxRecDepth 100000
set_option maxHeartbeats 4000000
set_option linter.unusedSimpArgs false
set_option linter.unusedVariables false
set_option linter.unusedSectionVars false
namespace Go.Proofs.YtpdecefdhkhlnaaGreatDoor
open Go.Ab Go.RowKit Go.Shelf Go.Proofs
attribute [local instance] drV loV
theorem c_Index (s sep : ByteArray) (hs : s.size < 4294967281) : Pure Tryz.prog 87 [AV.v (.string s), AV.v (.string sep)] (iv (Lib.index s.data.toList sep.data.toList)) := by
  refine ⟨Tryz.call87, fun O w vs hr hO => ?_⟩
  obtain rfl := two_args hr
  obtain ⟨m, hm⟩ := hO.2.2.2.2
  have hm1 : w.cell? ⟨Tryz.laySplit_ren.g 1, 0, none⟩ = some (.int .i64 m) := by
    have := World.var?_cell Tryz.laySplit.m1 hm.var 0
    simpa using this
  refine (Any.strings_Index { Tryz.laySplit with } s sep m w hs hm1).mono fun e w' ⟨he, hw⟩ => ?_
  subst hw
  exact ⟨_, he, Gr.refl _, Rp.v _⟩
theorem cut_index (c : UInt8) : ∀ (l : List UInt8) (j : Nat), Lib.index l [c] = j → cutL c l = l.take j :: cutL c (l.drop (j + 1)) ∧ j < l.length
  | [], j, h => by simp [Lib.index] at h
  | b :: l, j, h => by
    by_cases hb : b = c
    · subst hb
      have : Lib.index (b :: l) [b] = 0 := by rw [Lib.index]; simp [List.isPrefixOf]
      obtain rfl : j = 0 := by omega
      rw [cutL, if_pos rfl]
      simp
    · have hix := index_cons b c l hb
      rw [hix] at h
      by_cases hm : Lib.index l [c] = -1
      · rw [if_pos (by simp [hm])] at h; omega
      · rw [if_neg (by simp [hm])] at h
        have hge := Lib.index_ge l [c]
        obtain ⟨i, hi⟩ : ∃ i : Nat, Lib.index l [c] = i := ⟨(Lib.index l [c]).toNat, by omega⟩
        obtain ⟨h1, h2⟩ := cut_index c l i hi
        obtain rfl : j = i + 1 := by omega
        rw [cutL, if_neg hb, h1]
        simp [preL]; omega
theorem cut_none (c : UInt8) : ∀ (l : List UInt8), Lib.index l [c] = -1 → cutL c l = [l]
  | [], _ => rfl
  | b :: l, h => by
    by_cases hb : b = c
    · subst hb
      have : Lib.index (b :: l) [b] = 0 := by rw [Lib.index]; simp [List.isPrefixOf]
      omega
    · have hix := index_cons b c l hb
      rw [hix] at h
      by_cases hm : Lib.index l [c] = -1
      · rw [cutL, if_neg hb, cut_none c l hm]; rfl
      · have hge := Lib.index_ge l [c]
        rw [if_neg (by simp [hm])] at h
        omega
abbrev bysX (s : ByteArray) : List UInt8 := s.data.toList
theorem ext_take (r : ByteArray) (j : Nat) : (⟨((bysX r).take j).toArray⟩ : ByteArray) = r.extract 0 j := by
  have := Lib.extract_from_zero r j
  refine ByteArray.ext ?_
  show ((bysX r).take j).toArray = _
  rw [← this]
def seqH (s sep : ByteArray) : Hp := hset (hset (hset emp 0 (some [.v (.string s)])) 1 (some [.v (.string sep)])) 2 (some [iv 0])
theorem seqH_put (a b c d : Option (List AV)) : hset (hset (hset (hset emp 0 a) 1 b) 2 c) 0 d = hset (hset (hset emp 0 d) 1 b) 2 c := by
  funext k
  match k with
  | 0 => rfl
  | 1 => rfl
  | 2 => rfl
  | k + 3 => rfl
theorem it_split (s : ByteArray) (c : UInt8) (ys : Nat → Option (List AV)) (an : Nat → Bool) (n : Nat) (hs : s.size < 4294967281) (hn : n ≤ (cutL c (bysX s)).length) (h1 : 1 ≤ n)
    (hys : ∀ t, t < n → ys t = ((cutL c (bysX s))[t]?).map fun l => [.v (.string ⟨l.toArray⟩)]) (han : ∀ t, t + 1 < n → an t = true) (hlast : n < (cutL c (bysX s)).length → an (n - 1) = false) :
    IterL Tryz.prog 85 3 (seqH s ⟨#[c]⟩) [.lp 1 0, .lp 0 0, .lp 2 0] ys an n := by
  refine iterL_intro evOk [24, 41, 51] Tryz.func85 rfl Tryz.call85 (fun y hy hya => ?_)
  subst hy hya
  unfold seqH entryL
  repeat' first
   | refine v_seq ?_ | refine v_block ?_ | refine v_ret ?_ | refine v_skip ?_ | (refine v_exit ?_; repeat' first | refine xB_eq ?_ | refine xB_ne rfl ?_)
   | ((first | refine v_region (evOk.withY y) (fun K hK => ?_) | refine v_draw' (evOk.withY y) rfl (fun K hK => ?_) | refine v_drawF (evOk.withY y) rfl rfl (fun K hK => ?_)); simp only [go_sem,simprocAttr,hset_at,hset_hset])
   | (simp (disch := first | omega | rfl | (simp only [lnn]; omega)) only [spl])
   | (refine hK _ ?_; clear hK K)
   | (refine gdB_intro (fun h => ?_) (fun h => ?_) <;> simp only [go_sem,simprocAttr,h,hset_at,hset_hset] <;> (have h' := h; try simp only [bl] at h'))
   | (refine v_cond rfl (fun h => ?_) (fun h => ?_) <;> first | (exact Bool.noConfusion h) | (have h' := h; try simp only [bl] at h'))
   | (refine r_ret ?_; simp only [resL, resA, Tryz.f85, lk_cons', lk_nil', Nat.reduceBEq]; first | exact ⟨rfl, Sb.nil _, rfl⟩ | refine ⟨rfl, sbt ?_, rfl⟩ | refine ⟨rfl, Sb.of_eq ?_, rfl⟩)
   | (refine And.intro (by first | exact True.intro | omega | rfl | exact Nat.le_of_ble_eq_true rfl | (simp only [lnn]; omega) | exact List.forall_mem_nil _ | (refine List.forall_mem_cons.2 ⟨⟨_, rfl⟩, ?_⟩; repeat' first | exact List.forall_mem_nil _ | refine List.forall_mem_cons.2 ⟨⟨_, rfl⟩, ?_⟩)) ?_)
   | fail
  clear h h'
  refine v_loop (T := Nat × ByteArray) (fun x => ⟨[(0, .v (.func (.yield y.l) #[] #[])), (1, .lp 1 0), (2, .lp 0 0), (3, .lp 2 0)], seqH x.2 ⟨#[c]⟩, 3, (52, 3, x.1)⟩)
    (fun x => cutL c (bysX x.2) = (cutL c (bysX s)).drop x.1 ∧ x.1 < n ∧ x.2.size ≤ s.size) (fun x => x.2.size) (0, s) ⟨by simp, (by omega : 0 < n), Nat.le_refl _⟩ ?_ ?_
  · unfold seqH
    refine ent_eq ?_ rfl rfl rfl
    (repeat' first | exact trivial | refine ⟨?_, ?_⟩ | rfl | (refine congrArg (fun z => some (AV.v (Value.int .i64 z))) ?_; omega))
  rintro ⟨t, r⟩ ⟨hc, ht, hr⟩
  simp only at hc ht hr
  have ki : Pure Tryz.prog 87 [AV.v (.string r), AV.v (.string ⟨#[c]⟩)] (iv (Lib.index (bysX r) [c])) := c_Index r ⟨#[c]⟩ (by omega)
  have hge := Lib.index_ge (bysX r) [c]
  have hP : t < (cutL c (bysX s)).length := by omega
  have hyt := hys t ht
  have hdr : (cutL c (bysX s)).drop t = (cutL c (bysX s))[t] :: (cutL c (bysX s)).drop (t + 1) := List.drop_eq_getElem_cons hP
  rw [List.getElem?_eq_getElem hP, Option.map_some] at hyt
  rw [hdr] at hc
  unfold seqH
  by_cases hm : Lib.index (bysX r) [c] = -1
  · rw [cut_none c _ hm] at hc
    obtain ⟨e1, e2⟩ := List.cons.inj hc
    rw [← e1] at hyt
    have hl : n = t + 1 := by
      have := congrArg List.length e2
      simp at this; omega
    rw [hm] at ki
    repeat' first
     | refine v_seq ?_ | refine v_block ?_ | refine v_ret ?_ | refine v_skip ?_ | (refine v_exit ?_; repeat' first | refine xB_eq ?_ | refine xB_ne rfl ?_)
     | ((first | refine v_region (evOk.withY y) (fun K hK => ?_) | refine v_draw' (evOk.withY y) rfl (fun K hK => ?_) | refine v_drawF (evOk.withY y) rfl rfl (fun K hK => ?_)); simp only [go_sem,simprocAttr,hset_at,hset_hset])
     | (simp (disch := first | omega | rfl | (simp only [lnn]; omega)) only [spl])
     | (refine hK _ ?_; clear hK K)
     | (refine gdB_intro (fun h => ?_) (fun h => ?_) <;> simp only [go_sem,simprocAttr,h,hset_at,hset_hset] <;> (have h' := h; try simp only [bl] at h'))
     | (refine v_cond rfl (fun h => ?_) (fun h => ?_) <;> first | (exact Bool.noConfusion h) | (have h' := h; try simp only [bl] at h'))
     | (refine r_ret ?_; simp only [resL, resA, Tryz.f85, lk_cons', lk_nil', Nat.reduceBEq]; first | exact ⟨rfl, Sb.nil _, rfl⟩ | refine ⟨rfl, sbt ?_, rfl⟩ | refine ⟨rfl, Sb.of_eq ?_, rfl⟩)
     | (refine And.intro (by first | exact True.intro | omega | rfl | exact Nat.le_of_ble_eq_true rfl | (simp only [lnn]; omega) | exact List.forall_mem_nil _ | (refine List.forall_mem_cons.2 ⟨⟨_, rfl⟩, ?_⟩; repeat' first | exact List.forall_mem_nil _ | refine List.forall_mem_cons.2 ⟨⟨_, rfl⟩, ?_⟩)) ?_)
     | ((first | refine call_pure' (ki) rfl ?_); simp only [go_sem,simprocAttr,hset_at,hset_hset])
     | (refine And.intro hyt ?_)
     | fail
    all_goals first | exact ⟨hl.symm, True.intro⟩ | exact True.intro
  · obtain ⟨j, hj⟩ : ∃ j : Nat, Lib.index (bysX r) [c] = j := ⟨(Lib.index (bysX r) [c]).toNat, by omega⟩
    obtain ⟨h2, hjl⟩ := cut_index c _ j hj
    rw [h2] at hc
    obtain ⟨e1, e2⟩ := List.cons.inj hc
    rw [← e1, ext_take] at hyt
    rw [hj] at ki
    have hjs : j < r.size := hjl
    have hlen : t + 1 < (cutL c (bysX s)).length := by
      rcases Nat.lt_or_ge (t + 1) (cutL c (bysX s)).length with h | h
      · exact h
      · rw [List.drop_eq_nil_of_le h] at e2; exact absurd e2 (cutL_ne _ _)
    have w0 : IntKind.i64.wrap ((j : Int) + 0) = j := by rw [Int.add_zero]; exact spl.1 _ (by omega)
    have cz : (((#[c] : Array UInt8).size : Nat) : Int) = 1 := rfl
    have w1 : IntKind.i64.wrap ((j : Int) + 1) = ((j + 1 : Nat) : Int) := by rw [spl.1 _ (by omega)]; omega
    cases hb : y.an t
    · have hl : t + 1 = n := by
        rcases Nat.lt_or_ge (t + 1) n with h | h
        · rw [han t h] at hb; cases hb
        · omega
      repeat' first
       | refine v_seq ?_ | refine v_block ?_ | refine v_ret ?_ | refine v_skip ?_ | (refine v_exit ?_; repeat' first | refine xB_eq ?_ | refine xB_ne rfl ?_)
       | ((first | refine v_region (evOk.withY y) (fun K hK => ?_) | refine v_draw' (evOk.withY y) rfl (fun K hK => ?_) | refine v_drawF (evOk.withY y) rfl rfl (fun K hK => ?_)); simp only [go_sem,simprocAttr,hset_at,hset_hset,hb,w0,w1,cz,Int.toNat_natCast])
       | (simp (disch := first | omega | rfl | (simp only [lnn]; omega)) only [spl])
       | (refine hK _ ?_; clear hK K)
       | (refine gdB_intro (fun h => ?_) (fun h => ?_) <;> simp only [go_sem,simprocAttr,h,hset_at,hset_hset,hb,w0,w1,cz,Int.toNat_natCast] <;> (have h' := h; try simp only [bl] at h'))
       | (refine v_cond rfl (fun h => ?_) (fun h => ?_) <;> first | (exact Bool.noConfusion h) | (have h' := h; try simp only [bl] at h'))
       | (refine r_ret ?_; simp only [resL, resA, Tryz.f85, lk_cons', lk_nil', Nat.reduceBEq]; first | exact ⟨rfl, Sb.nil _, rfl⟩ | refine ⟨rfl, sbt ?_, rfl⟩ | refine ⟨rfl, Sb.of_eq ?_, rfl⟩)
       | (refine And.intro (by first | exact True.intro | omega | rfl | exact Nat.le_of_ble_eq_true rfl | (simp only [lnn]; omega) | exact List.forall_mem_nil _ | (refine List.forall_mem_cons.2 ⟨⟨_, rfl⟩, ?_⟩; repeat' first | exact List.forall_mem_nil _ | refine List.forall_mem_cons.2 ⟨⟨_, rfl⟩, ?_⟩)) ?_)
       | ((first | refine call_pure' (ki) rfl ?_); simp only [go_sem,simprocAttr,hset_at,hset_hset,hb,w0,w1,cz,Int.toNat_natCast])
       | (refine And.intro hyt ?_)
       | fail
      all_goals first | exact ⟨hl, True.intro⟩ | exact True.intro
    · have hl : t + 1 < n := by
        rcases Nat.lt_or_ge (t + 1) n with h | h
        · exact h
        · obtain rfl : n = t + 1 := by omega
          have := hlast hlen
          rw [Nat.add_sub_cancel, hb] at this; cases this
      have ex : (r.extract (j + 1) r.size).data.toList = (bysX r).drop (j + 1) := Lib.extract_to_end r (j + 1)
      have exs : (r.extract (j + 1) r.size).size = r.size - (j + 1) := by simp [ByteArray.size_extract]
      repeat' first
       | refine v_seq ?_ | refine v_block ?_ | refine v_ret ?_ | refine v_skip ?_ | (refine v_exit ?_; repeat' first | refine xB_eq ?_ | refine xB_ne rfl ?_)
       | ((first | refine v_region (evOk.withY y) (fun K hK => ?_) | refine v_draw' (evOk.withY y) rfl (fun K hK => ?_) | refine v_drawF (evOk.withY y) rfl rfl (fun K hK => ?_)); simp only [go_sem,simprocAttr,hset_at,hset_hset,hb,w0,w1,cz,Int.toNat_natCast])
       | (simp (disch := first | omega | rfl | (simp only [lnn]; omega)) only [spl])
       | (refine hK _ ?_; clear hK K)
       | (refine gdB_intro (fun h => ?_) (fun h => ?_) <;> simp only [go_sem,simprocAttr,h,hset_at,hset_hset,hb,w0,w1,cz,Int.toNat_natCast] <;> (have h' := h; try simp only [bl] at h'))
       | (refine v_cond rfl (fun h => ?_) (fun h => ?_) <;> first | (exact Bool.noConfusion h) | (have h' := h; try simp only [bl] at h'))
       | (refine r_ret ?_; simp only [resL, resA, Tryz.f85, lk_cons', lk_nil', Nat.reduceBEq]; first | exact ⟨rfl, Sb.nil _, rfl⟩ | refine ⟨rfl, sbt ?_, rfl⟩ | refine ⟨rfl, Sb.of_eq ?_, rfl⟩)
       | (refine And.intro (by first | exact True.intro | omega | rfl | exact Nat.le_of_ble_eq_true rfl | (simp only [lnn]; omega) | exact List.forall_mem_nil _ | (refine List.forall_mem_cons.2 ⟨⟨_, rfl⟩, ?_⟩; repeat' first | exact List.forall_mem_nil _ | refine List.forall_mem_cons.2 ⟨⟨_, rfl⟩, ?_⟩)) ?_)
       | ((first | refine call_pure' (ki) rfl ?_); simp only [go_sem,simprocAttr,hset_at,hset_hset,hb,w0,w1,cz,Int.toNat_natCast])
       | (refine And.intro hyt ?_)
       | fail
      refine ⟨(t + 1, r.extract (j + 1) r.size), ?_, ⟨?_, hl, ?_⟩, ?_⟩
      · refine ent_eq ?_ rfl (seqH_put _ _ _ _).symm rfl
        (repeat' first | exact trivial | refine ⟨?_, ?_⟩ | rfl | (refine congrArg (fun z => some (AV.v (Value.int .i64 z))) ?_; omega))
      · show cutL c (bysX (r.extract (j + 1) r.size)) = _
        unfold bysX
        rw [ex, e2]
      · show (r.extract (j + 1) r.size).size ≤ s.size
        rw [exs]; omega
      · show (r.extract (j + 1) r.size).size < r.size
        rw [exs]; omega
end Go.Proofs.YtpdecefdhkhlnaaGreatDoor
set_option maxRecDepth 100000
set_option maxHeartbeats 4000000
set_option linter.unusedSimpArgs false
set_option linter.unusedVariables false
set_option linter.unusedSectionVars false
namespace Go.Proofs.YtpdecefdhkhlnaaGreatDoor
open Go.Ab Go.RowKit Go.Shelf Go.Proofs
attribute [local instance] drV loV
theorem m_splitSeq (H : Hp) (nx : Nat) (s sep : ByteArray) (K : AV → Hp → Nat → Prop)
    (hKK : K (.fn (.func 85) [] [.lp (nx + 1) 0, .lp nx 0, .lp (nx + 2) 0]) (hset (hset (hset H nx (some [.v (.string s)])) (nx + 1) (some [.v (.string sep)])) (nx + 2) (some [iv 0])) (nx + 3)) :
    CallM Tryz.prog 64 H nx [.v (.string s), .v (.string sep), iv 0] K := by
  refine call_in evOk [3, 4, 5] Tryz.func64 rfl Tryz.call64 ?_
  repeat' first
   | refine v_seq ?_ | refine v_block ?_ | refine v_ret ?_ | refine v_skip ?_ | (refine v_exit ?_; repeat' first | refine xB_eq ?_ | refine xB_ne rfl ?_)
   | ((first | refine rgA fun K hK => ?_ | refine rgB rfl fun K hK => ?_ | refine rgC rfl fun K hK => ?_); simp only [go_sem,simprocAttr,entryFr])
   | (simp (disch := first | omega | rfl | (simp only [lnn]; omega)) only [spl])
   | (refine hK _ ?_; clear hK K)
   | (refine gdB_intro (fun h => ?_) (fun h => ?_) <;> simp only [go_sem,simprocAttr,h,entryFr] <;> (have h' := h; try simp only [bl] at h'))
   | (refine v_cond rfl (fun h => ?_) (fun h => ?_) <;> first | (exact Bool.noConfusion h) | (have h' := h; try simp only [bl] at h'))
   | (refine r_ret ?_; simp only [resL, resA, Tryz.f64, lk_cons', lk_nil', Nat.reduceBEq]; first | exact ⟨rfl, Sb.nil _, rfl⟩ | refine ⟨rfl, sbt ?_, rfl⟩ | refine ⟨rfl, Sb.of_eq ?_, rfl⟩)
   | (refine And.intro (by first | exact True.intro | omega | rfl | exact Nat.le_of_ble_eq_true rfl | (simp only [lnn]; omega) | exact List.forall_mem_nil _ | (refine List.forall_mem_cons.2 ⟨⟨_, rfl⟩, ?_⟩; repeat' first | exact List.forall_mem_nil _ | refine List.forall_mem_cons.2 ⟨⟨_, rfl⟩, ?_⟩)) ?_)
   | fail
  exact ⟨_, Ent.refl _, hKK⟩
theorem m_SplitSeq (H : Hp) (nx : Nat) (s sep : ByteArray) (K : AV → Hp → Nat → Prop)
    (hKK : K (.fn (.func 85) [] [.lp (nx + 1) 0, .lp nx 0, .lp (nx + 2) 0]) (hset (hset (hset H nx (some [.v (.string s)])) (nx + 1) (some [.v (.string sep)])) (nx + 2) (some [iv 0])) (nx + 3)) :
    CallM Tryz.prog 41 H nx [.v (.string s), .v (.string sep)] K := by
  refine call_in evOk [7] Tryz.func41 rfl Tryz.call41 ?_
  repeat' first
   | refine v_seq ?_ | refine v_block ?_ | refine v_ret ?_ | refine v_skip ?_ | (refine v_exit ?_; repeat' first | refine xB_eq ?_ | refine xB_ne rfl ?_)
   | ((first | refine rgA fun K hK => ?_ | refine rgB rfl fun K hK => ?_ | refine rgC rfl fun K hK => ?_); simp only [go_sem,simprocAttr,entryFr])
   | (simp (disch := first | omega | rfl | (simp only [lnn]; omega)) only [spl])
   | (refine hK _ ?_; clear hK K)
   | (refine gdB_intro (fun h => ?_) (fun h => ?_) <;> simp only [go_sem,simprocAttr,h,entryFr] <;> (have h' := h; try simp only [bl] at h'))
   | (refine v_cond rfl (fun h => ?_) (fun h => ?_) <;> first | (exact Bool.noConfusion h) | (have h' := h; try simp only [bl] at h'))
   | (refine r_ret ?_; simp only [resL, resA, Tryz.f41, lk_cons', lk_nil', Nat.reduceBEq]; first | exact ⟨rfl, Sb.nil _, rfl⟩ | refine ⟨rfl, sbt ?_, rfl⟩ | refine ⟨rfl, Sb.of_eq ?_, rfl⟩)
   | (refine And.intro (by first | exact True.intro | omega | rfl | exact Nat.le_of_ble_eq_true rfl | (simp only [lnn]; omega) | exact List.forall_mem_nil _ | (refine List.forall_mem_cons.2 ⟨⟨_, rfl⟩, ?_⟩; repeat' first | exact List.forall_mem_nil _ | refine List.forall_mem_cons.2 ⟨⟨_, rfl⟩, ?_⟩)) ?_)
   | (refine m_splitSeq _ _ s sep _ ?_; simp only [cmK, go_sem,simprocAttr])
   | fail
  exact ⟨_, Ent.refl _, hKK⟩
end Go.Proofs.YtpdecefdhkhlnaaGreatDoor
set_option maxRecDepth 100000
set_option maxHeartbeats 4000000
set_option linter.unusedSimpArgs false
set_option linter.unusedVariables false
set_option linter.unusedSectionVars false
namespace Go.Proofs.YtpdecefdhkhlnaaGreatDoor
open Go.Ab Go.RowKit Go.Shelf Go.Proofs
attribute [local instance] drV loV
abbrev bys (s : ByteArray) : List UInt8 := s.data.toList
abbrev bar (l : List UInt8) : ByteArray := ⟨l.toArray⟩
theorem str_eq (a : List UInt8) (s : ByteArray) : ((⟨a.toArray⟩ : ByteArray).toList == s.toList) = decide (a = s.data.toList) := by
  rw [ByteArray.toList_eq, ByteArray.toList_eq, Bool.eq_iff_iff]
  simp
theorem numV_I64 (s : ByteArray) : I64 (numV (bys s)) := by
  unfold numV I64
  cases h : Lib.atoiAll (bys s)
  · exact Lib.atoiAll_bounds h
  · exact (show (-9223372036854775808 : Int) ≤ 0 ∧ (0 : Int) ≤ 9223372036854775807 from ⟨by decide, by decide⟩)
  · exact Lib.atoiSat_bounds _
theorem c_number (s : ByteArray) (hs : s.size ≤ 281474976710656) : Pure Tryz.prog 42 [.v (.string s)] (.tu [iv (numV (bys s)), .v (.bool (numP 6 (bys s)))]) := by
  have ha : Pure Tryz.prog 65 [AV.v (.string s)] (.tu [iv (numV (bys s)), bif (match Lib.atoiAll (bys s) with | .ok _ => true | _ => false) then .v .nilIface else errA]) := by
    unfold numV
    cases h : Lib.atoiAll (bys s)
    · exact c_AtoiOk s hs _ h
    · exact c_AtoiSyntax s hs (fun v e => by rw [h] at e; cases e) (fun e => by rw [h] at e; cases e)
    · exact c_AtoiRange s hs h
  have hI : I64 (numV (bys s)) := numV_I64 s
  have ki := c_ItoaV _ hI
  have kt := c_TrimPrefix s ⟨#[45]⟩
  have hE : numP 6 (bys s) = (match Lib.atoiAll (bys s) with | .ok v => decide (Lib.itoa v = bys s) && decide ((Lib.trimPrefix (bys s) [45]).length ≤ 6) | _ => false) := rfl
  have q1 : ((itoaS (numV (bys s))).toList == s.toList) = decide (Lib.itoa (numV (bys s)) = bys s) := str_eq (Lib.itoa (numV (bys s))) s
  have hz : ((⟨(Lib.trimPrefix (bys s) [45]).toArray⟩ : ByteArray).size : Int) = ((Lib.trimPrefix (bys s) [45]).length : Int) := by simp [ByteArray.size]
  generalize hv : numV (bys s) = v at *
  refine p_intro evOk [] Tryz.func42 rfl Tryz.call42 ?_
  cases hat : Lib.atoiAll (bys s)
  · rename_i v'
    have : v = v' := by rw [← hv]; unfold numV; rw [hat]
    subst this
    rw [hat] at ha hE
    rw [cond_true] at ha
    repeat' first
     | refine v_seq ?_ | refine v_block ?_ | refine v_ret ?_ | refine v_skip ?_ | (refine v_exit ?_; repeat' first | refine xB_eq ?_ | refine xB_ne rfl ?_)
     | ((first | refine rgA fun K hK => ?_ | refine rgB rfl fun K hK => ?_ | refine rgC rfl fun K hK => ?_); simp only [go_sem,simprocAttr,q1,hz])
     | (simp (disch := first | omega | rfl | (simp only [lnn]; omega)) only [spl])
     | (refine hK _ ?_; clear hK K)
     | (refine gdB_intro (fun h => ?_) (fun h => ?_) <;> simp only [go_sem,simprocAttr,h,q1,hz] <;> (have h' := h; try simp only [bl] at h'))
     | (refine v_cond rfl (fun h => ?_) (fun h => ?_) <;> first | (exact Bool.noConfusion h) | (have h' := h; try simp only [bl] at h'))
     | (refine r_ret ?_; simp only [resL, resA, Tryz.f42, lk_cons', lk_nil', Nat.reduceBEq]; first | exact ⟨rfl, Sb.nil _, rfl⟩ | refine ⟨rfl, sbt ?_, rfl⟩ | refine ⟨rfl, Sb.of_eq ?_, rfl⟩)
     | (refine And.intro (by first | exact True.intro | omega | rfl | exact Nat.le_of_ble_eq_true rfl | (simp only [lnn]; omega) | exact List.forall_mem_nil _ | (refine List.forall_mem_cons.2 ⟨⟨_, rfl⟩, ?_⟩; repeat' first | exact List.forall_mem_nil _ | refine List.forall_mem_cons.2 ⟨⟨_, rfl⟩, ?_⟩)) ?_)
     | ((first | refine call_pure' (ha) rfl ?_ | refine call_pure' (ki) rfl ?_ | refine call_pure' (kt) rfl ?_); simp only [go_sem,simprocAttr,q1,hz])
     | fail
    all_goals
      refine congrArg (fun b => AV.tu [iv v, AV.v (Value.bool b)]) ?_
      first | (rw [hE]; done) | (rw [hE]; simp_all; done) | (rw [hE]; simp_all; exact Int.ofNat_le)
  · rw [hat] at ha hE
    rw [cond_false] at ha
    repeat' first
     | refine v_seq ?_ | refine v_block ?_ | refine v_ret ?_ | refine v_skip ?_ | (refine v_exit ?_; repeat' first | refine xB_eq ?_ | refine xB_ne rfl ?_)
     | ((first | refine rgA fun K hK => ?_ | refine rgB rfl fun K hK => ?_ | refine rgC rfl fun K hK => ?_); simp only [go_sem,simprocAttr,q1,hz])
     | (simp (disch := first | omega | rfl | (simp only [lnn]; omega)) only [spl])
     | (refine hK _ ?_; clear hK K)
     | (refine gdB_intro (fun h => ?_) (fun h => ?_) <;> simp only [go_sem,simprocAttr,h,q1,hz] <;> (have h' := h; try simp only [bl] at h'))
     | (refine v_cond rfl (fun h => ?_) (fun h => ?_) <;> first | (exact Bool.noConfusion h) | (have h' := h; try simp only [bl] at h'))
     | (refine r_ret ?_; simp only [resL, resA, Tryz.f42, lk_cons', lk_nil', Nat.reduceBEq]; first | exact ⟨rfl, Sb.nil _, rfl⟩ | refine ⟨rfl, sbt ?_, rfl⟩ | refine ⟨rfl, Sb.of_eq ?_, rfl⟩)
     | (refine And.intro (by first | exact True.intro | omega | rfl | exact Nat.le_of_ble_eq_true rfl | (simp only [lnn]; omega) | exact List.forall_mem_nil _ | (refine List.forall_mem_cons.2 ⟨⟨_, rfl⟩, ?_⟩; repeat' first | exact List.forall_mem_nil _ | refine List.forall_mem_cons.2 ⟨⟨_, rfl⟩, ?_⟩)) ?_)
     | ((first | refine call_pure' (ha) rfl ?_ | refine call_pure' (ki) rfl ?_ | refine call_pure' (kt) rfl ?_); simp only [go_sem,simprocAttr,q1,hz])
     | fail
    all_goals
      refine congrArg (fun b => AV.tu [iv v, AV.v (Value.bool b)]) ?_
      first | (rw [hE]; done) | (rw [hE]; simp_all; done) | (rw [hE]; simp_all; exact Int.ofNat_le)
  · rw [hat] at ha hE
    rw [cond_false] at ha
    repeat' first
     | refine v_seq ?_ | refine v_block ?_ | refine v_ret ?_ | refine v_skip ?_ | (refine v_exit ?_; repeat' first | refine xB_eq ?_ | refine xB_ne rfl ?_)
     | ((first | refine rgA fun K hK => ?_ | refine rgB rfl fun K hK => ?_ | refine rgC rfl fun K hK => ?_); simp only [go_sem,simprocAttr,q1,hz])
     | (simp (disch := first | omega | rfl | (simp only [lnn]; omega)) only [spl])
     | (refine hK _ ?_; clear hK K)
     | (refine gdB_intro (fun h => ?_) (fun h => ?_) <;> simp only [go_sem,simprocAttr,h,q1,hz] <;> (have h' := h; try simp only [bl] at h'))
     | (refine v_cond rfl (fun h => ?_) (fun h => ?_) <;> first | (exact Bool.noConfusion h) | (have h' := h; try simp only [bl] at h'))
     | (refine r_ret ?_; simp only [resL, resA, Tryz.f42, lk_cons', lk_nil', Nat.reduceBEq]; first | exact ⟨rfl, Sb.nil _, rfl⟩ | refine ⟨rfl, sbt ?_, rfl⟩ | refine ⟨rfl, Sb.of_eq ?_, rfl⟩)
     | (refine And.intro (by first | exact True.intro | omega | rfl | exact Nat.le_of_ble_eq_true rfl | (simp only [lnn]; omega) | exact List.forall_mem_nil _ | (refine List.forall_mem_cons.2 ⟨⟨_, rfl⟩, ?_⟩; repeat' first | exact List.forall_mem_nil _ | refine List.forall_mem_cons.2 ⟨⟨_, rfl⟩, ?_⟩)) ?_)
     | ((first | refine call_pure' (ha) rfl ?_ | refine call_pure' (ki) rfl ?_ | refine call_pure' (kt) rfl ?_); simp only [go_sem,simprocAttr,q1,hz])
     | fail
    all_goals
      refine congrArg (fun b => AV.tu [iv v, AV.v (Value.bool b)]) ?_
      first | (rw [hE]; done) | (rw [hE]; simp_all; done) | (rw [hE]; simp_all; exact Int.ofNat_le)
end Go.Proofs.YtpdecefdhkhlnaaGreatDoor
set_option maxRecDepth 100000
set_option maxHeartbeats 4000000
set_option linter.unusedSimpArgs false
set_option linter.unusedVariables false
set_option linter.unusedSectionVars false
namespace Go.Proofs.YtpdecefdhkhlnaaGreatDoor
open Go.Ab Go.RowKit Go.Shelf Go.Proofs
attribute [local instance] drV loV
theorem fz_sl (k : Nat) (c : List AV) (s n : Nat) (cs : List AV) : AV.fz k c (.sl s n cs) = .sl s n cs := rfl
def hwTo (p f : Int) (ts : List Int) (i : Nat) : List ByteArray := itoaS p :: itoaS f :: (ts.take i).map itoaS
theorem hwTo_len (p f : Int) (ts : List Int) {i : Nat} (h : i ≤ ts.length) : (hwTo p f ts i).length = i + 2 := by simp [hwTo]; omega
theorem c_FormatHum (p f : Int) (ts : List Int) (hp : I64 p) (hf : I64 f) (hl : ts.length ≤ 900) (ht : ∀ n ∈ ts, I64 n)
    (hJ : (Lib.join ((hwTo p f ts ts.length).map (·.data.toList)) [32]).length ≤ 140737488355328) :
    Pure Tryz.prog 15 [.ag [iv p, iv f, isl ts]] (AV.v (.string (join7 (hwTo p f ts ts.length) ⟨#[32]⟩))) := by
  have kp := c_ItoaV p hp
  have kf := c_ItoaV f hf
  refine p_intro evOk [12, 24] Tryz.func15 rfl Tryz.call15 ?_
  repeat' first
   | refine v_seq ?_ | refine v_block ?_ | refine v_ret ?_ | refine v_skip ?_ | (refine v_exit ?_; repeat' first | refine xB_eq ?_ | refine xB_ne rfl ?_)
   | ((first | refine rgA fun K hK => ?_ | refine rgB rfl fun K hK => ?_ | refine rgC rfl fun K hK => ?_); simp only [go_sem,simprocAttr])
   | (simp (disch := first | omega | rfl | (simp only [lnn]; omega)) only [spl])
   | (refine hK _ ?_; clear hK K)
   | (refine gdB_intro (fun h => ?_) (fun h => ?_) <;> simp only [go_sem,simprocAttr,h] <;> (have h' := h; try simp only [bl] at h'))
   | (refine v_cond rfl (fun h => ?_) (fun h => ?_) <;> first | (exact Bool.noConfusion h) | (have h' := h; try simp only [bl] at h'))
   | (refine r_ret ?_; simp only [resL, resA, Tryz.f15, lk_cons', lk_nil', Nat.reduceBEq]; first | exact ⟨rfl, Sb.nil _, rfl⟩ | refine ⟨rfl, sbt ?_, rfl⟩ | refine ⟨rfl, Sb.of_eq ?_, rfl⟩)
   | (refine And.intro (by first | exact True.intro | omega | rfl | exact Nat.le_of_ble_eq_true rfl | (simp only [lnn]; omega) | exact List.forall_mem_nil _ | (refine List.forall_mem_cons.2 ⟨⟨_, rfl⟩, ?_⟩; repeat' first | exact List.forall_mem_nil _ | refine List.forall_mem_cons.2 ⟨⟨_, rfl⟩, ?_⟩)) ?_)
   | ((first | refine call_pure' (kp) rfl ?_ | refine call_pure' (kf) rfl ?_); simp only [go_sem,simprocAttr])
   | fail
  refine v_loop (T := Nat × Nat × Nat) (fun x => ⟨[(3, .ls x.2.1 0 1 (x.1 + 2)), (14, isl ts), (15, iv ts.length), (16, iv x.1)], hls [(x.2.1, strs (hwTo p f ts x.1))], x.2.2, (28, 0, 0)⟩) (fun x => x.1 ≤ ts.length ∧ x.2.1 < x.2.2) (fun x => ts.length - x.1) (0, 0, 1) ⟨by (first | omega | (dsimp only; omega)), by (first | omega | (dsimp only; omega))⟩ ?_ ?_
  · exact ent_rows [(0, strs (hwTo p f ts 0))] (by (repeat' first | exact trivial | refine ⟨?_, ?_⟩ | rfl)) rfl ⟨⟨by simp [hset', hls, hwTo, strs]; rfl, by (first | omega | (dsimp only; omega))⟩, True.intro⟩ (Nat.le_refl _)
  rintro ⟨i, r, Y⟩ ⟨hi, hrY⟩
  dsimp only at hi hrY ⊢
  have y2 : (Y == r) = false := beq_ne (by omega)
  have y3 : (r == Y) = false := beq_ne (by omega)
  have hsl : (strs (hwTo p f ts i)).length = i + 2 := by rw [strs_len]; exact hwTo_len p f ts hi
  have hso1 := strs_one (hwTo p f ts i)
  have htk : List.take (i + 2) (strs (hwTo p f ts i)) = strs (hwTo p f ts i) := List.take_of_length_le (by omega)
  by_cases hi2 : i < ts.length
  · have hd : decide ((i : Int) < ts.length) = true := decide_eq_true (by omega)
    have ki := c_ItoaV (gi ts i) (ht _ (by simp [gi, hi2]))
    repeat' first
     | refine v_seq ?_ | refine v_block ?_ | refine v_ret ?_ | refine v_skip ?_ | (refine v_exit ?_; repeat' first | refine xB_eq ?_ | refine xB_ne rfl ?_)
     | ((first | refine rgA fun K hK => ?_ | refine rgB rfl fun K hK => ?_ | refine rgC rfl fun K hK => ?_); simp only [go_sem,simprocAttr,hd,hls,hsl,hso1,htk,hset_at,hset_hset,y2,y3])
     | (simp (disch := first | omega | rfl | (simp only [lnn]; omega)) only [spl])
     | (refine hK _ ?_; clear hK K)
     | (refine gdB_intro (fun h => ?_) (fun h => ?_) <;> simp only [go_sem,simprocAttr,h,hd,hls,hsl,hso1,htk,hset_at,hset_hset,y2,y3] <;> (have h' := h; try simp only [bl] at h'))
     | (refine v_cond rfl (fun h => ?_) (fun h => ?_) <;> first | (exact Bool.noConfusion h) | (have h' := h; try simp only [bl] at h'))
     | (refine r_ret ?_; simp only [resL, resA, Tryz.f15, lk_cons', lk_nil', Nat.reduceBEq]; first | exact ⟨rfl, Sb.nil _, rfl⟩ | refine ⟨rfl, sbt ?_, rfl⟩ | refine ⟨rfl, Sb.of_eq ?_, rfl⟩)
     | (refine And.intro (by first | exact True.intro | omega | rfl | exact Nat.le_of_ble_eq_true rfl | (simp only [lnn]; omega) | exact List.forall_mem_nil _ | (refine List.forall_mem_cons.2 ⟨⟨_, rfl⟩, ?_⟩; repeat' first | exact List.forall_mem_nil _ | refine List.forall_mem_cons.2 ⟨⟨_, rfl⟩, ?_⟩)) ?_)
     | ((first | refine call_pure' (ki) rfl ?_); simp only [go_sem,simprocAttr,hd,hls,hsl,hso1,htk,hset_at,hset_hset,y2,y3])
     | (simp only [go_sem,simprocAttr,hsl,hso1,htk,hset_at,hset_hset,y2,y3])
     | (simp only [htk])
     | fail
    refine ⟨(i + 1, Y, Y + 1), ?_, ⟨by (first | omega | (dsimp only; omega)), by (first | omega | (dsimp only; omega))⟩, by (first | omega | (dsimp only; omega))⟩
    have hw : hwTo p f ts (i + 1) = hwTo p f ts i ++ [itoaS (gi ts i)] := by
      unfold hwTo
      rw [List.take_add_one, List.getElem?_eq_getElem hi2, List.map_append]
      simp [gi, hi2]
    dsimp only
    rw [hw, ← strs_snoc]
    refine ent_rows _ (by (repeat' first | exact trivial | refine ⟨?_, ?_⟩ | rfl)) rfl ⟨⟨?_, by (first | omega | (dsimp only; omega))⟩, True.intro⟩ (Nat.le_refl _)
    simp [hset', htk]
  · obtain rfl : i = ts.length := by omega
    have hd : decide ((ts.length : Int) < ts.length) = false := decide_eq_false (by omega)
    have hwl := hwTo_len p f ts (Nat.le_refl ts.length)
    have kj := c_Join (hwTo p f ts ts.length) ⟨#[32]⟩ (by omega) (by omega) hJ
    unfold ssl at kj
    rw [hwl] at kj
    refine vc_ent ((ent_freezeH r (c := strs (hwTo p f ts ts.length)) (hset_at emp r _) (strs_plain _)).trans (ent_rows (fr := [(3, .sl 1 (ts.length + 2) (strs (hwTo p f ts ts.length))), (15, iv ts.length), (16, iv ts.length)]) [] ?_ rfl True.intro (Nat.le_refl _))) ?_
    · have hle : 0 + (ts.length + 2) * 1 ≤ (strs (hwTo p f ts ts.length)).length := by omega
      have hfz : AV.fz r (strs (hwTo p f ts ts.length)) (.ls r 0 1 (ts.length + 2)) = .sl 1 (ts.length + 2) (strs (hwTo p f ts ts.length)) := by
        simp only [AV.fz, beq_self_eq_true, cond_true, if_pos hle, List.drop_zero]
        rw [List.take_of_length_le (by omega)]
      simp only [fzF, hfz, fz_other, fz_sl]
      (repeat' first | exact trivial | refine ⟨?_, ?_⟩ | rfl)
    repeat' first
     | refine v_seq ?_ | refine v_block ?_ | refine v_ret ?_ | refine v_skip ?_ | (refine v_exit ?_; repeat' first | refine xB_eq ?_ | refine xB_ne rfl ?_)
     | ((first | refine rgA fun K hK => ?_ | refine rgB rfl fun K hK => ?_ | refine rgC rfl fun K hK => ?_); simp only [go_sem,simprocAttr,hd])
     | (simp (disch := first | omega | rfl | (simp only [lnn]; omega)) only [spl])
     | (refine hK _ ?_; clear hK K)
     | (refine gdB_intro (fun h => ?_) (fun h => ?_) <;> simp only [go_sem,simprocAttr,h,hd] <;> (have h' := h; try simp only [bl] at h'))
     | (refine v_cond rfl (fun h => ?_) (fun h => ?_) <;> first | (exact Bool.noConfusion h) | (have h' := h; try simp only [bl] at h'))
     | (refine r_ret ?_; simp only [resL, resA, Tryz.f15, lk_cons', lk_nil', Nat.reduceBEq]; first | exact ⟨rfl, Sb.nil _, rfl⟩ | refine ⟨rfl, sbt ?_, rfl⟩ | refine ⟨rfl, Sb.of_eq ?_, rfl⟩)
     | (refine And.intro (by first | exact True.intro | omega | rfl | exact Nat.le_of_ble_eq_true rfl | (simp only [lnn]; omega) | exact List.forall_mem_nil _ | (refine List.forall_mem_cons.2 ⟨⟨_, rfl⟩, ?_⟩; repeat' first | exact List.forall_mem_nil _ | refine List.forall_mem_cons.2 ⟨⟨_, rfl⟩, ?_⟩)) ?_)
     | ((first | refine call_pure' (kj) rfl ?_); simp only [go_sem,simprocAttr,hd])
     | fail
    all_goals rfl
end Go.Proofs.YtpdecefdhkhlnaaGreatDoor
set_option maxRecDepth 100000
set_option maxHeartbeats 4000000
set_option linter.unusedSimpArgs false
set_option linter.unusedVariables false
set_option linter.unusedSectionVars false
namespace Go.Proofs.YtpdecefdhkhlnaaGreatDoor
open Go.Ab Go.RowKit Go.Shelf Go.Proofs
attribute [local instance] drV loV
theorem rs_lp3 (a : Nat) (β β0 : Bt) (O : Nat → Prop) (w : World) (vs : Array Value) (h : ∀ i, i < 3 → β0 i = β (a + i)) (hr : Rs β O w [.lp (a + 1) 0, .lp a 0, .lp (a + 2) 0] vs) : Rs β0 O w [.lp 1 0, .lp 0 0, .lp 2 0] vs := by
  refine ⟨hr.1, fun i x hx => ?_⟩
  have one : ∀ (i k : Nat), k < 3 → (∃ u : Value, vs[i]? = some u ∧ R β O w (.lp (a + k) 0) u) → ∃ u : Value, vs[i]? = some u ∧ R β0 O w (.lp k 0) u := fun i k hk ⟨u, h1, h2⟩ => by
    obtain ⟨b, st, h3, rfl⟩ := h2.lp_inv
    exact ⟨_, h1, .lp _ _ _ _ ((h k hk).trans h3)⟩
  match i, hx with
  | 0, hx => simp at hx; subst hx; exact one 0 1 (by decide) (hr.2 0 _ rfl)
  | 1, hx => simp at hx; subst hx; exact one 1 0 (by decide) (hr.2 1 _ rfl)
  | 2, hx => simp at hx; subst hx; exact one 2 2 (by decide) (hr.2 2 _ rfl)
  | i + 3, hx => simp at hx
theorem cutL_size (c : UInt8) : ∀ (l : List UInt8) (x : List UInt8), x ∈ cutL c l → x.length ≤ l.length
  | [], x, h => by simp [cutL] at h; subst h; simp
  | b :: r, x, h => by
    have ih := cutL_size c r
    rw [cutL] at h
    split at h
    · rcases List.mem_cons.1 h with rfl | h
      · simp
      · have := ih x h; simp; omega
    · cases hc : cutL c r with
      | nil => rw [hc] at h; simp [preL] at h; subst h; simp
      | cons y q =>
        rw [hc] at h ih
        simp only [preL, List.mem_cons] at h
        rcases h with rfl | h
        · have := ih y (by simp); simp; omega
        · have := ih x (by simp [h]); simp; omega
def okH (t : Nat) (l : List UInt8) : Bool := numP 6 l && !(decide (numV l < 0) && decide (t < 2))
def hvals (P : List (List UInt8)) (t : Nat) : List Int := (P.take t).map numV
abbrev zHum : List AV := [iv 0, iv 0, .v (.slice none 0 0)]
def phH (P : List (List UInt8)) (t : Nat) : Hp := hls [(0, zHum), (1, [iv 0]), (2, [.ls (t + 6) 0 1 t]), (t + 6, ints (hvals P t))]
def phY (P : List (List UInt8)) (n : Nat) (t : Nat) : Option (List AV) := bif decide (t < n) then (P[t]?).map fun l => [.v (.string ⟨l.toArray⟩)] else none
theorem ph_row (P : List (List UInt8)) (t : Nat) : phH P t (t + 6) = some (ints (hvals P t)) := by
  unfold phH
  have h0 : ((0 : Nat) == t + 6) = false := by rw [beq_eq_false_iff_ne]; omega
  have h1 : ((1 : Nat) == t + 6) = false := by rw [beq_eq_false_iff_ne]; omega
  have h2 : ((2 : Nat) == t + 6) = false := by rw [beq_eq_false_iff_ne]; omega
  simp [hls, hset', h0, h1, h2]
theorem phY_some {P : List (List UInt8)} {n t : Nat} {avs : List AV} (h : phY P n t = some avs) : ∃ l, (t < n ∧ P[t]? = some l) ∧ avs = [.v (.string ⟨l.toArray⟩)] := by
  unfold phY at h
  by_cases ht : t < n
  · rw [decide_eq_true ht, cond_true, Option.map_eq_some_iff] at h
    obtain ⟨l, h1, rfl⟩ := h
    exact ⟨l, ⟨ht, h1⟩, rfl⟩
  · rw [decide_eq_false ht] at h; cases h
def phS (s : ByteArray) : St := ⟨[(2, .lp 0 0), (3, .lp 1 0), (4, .lp 2 0), (11, .fn (.func 85) [] [.lp 4 0, .lp 3 0, .lp 5 0])],
  hset (hset (hls [(0, zHum), (1, [iv 0]), (2, [.v (.slice none 0 0)]), (3, [.v (.string s)]), (4, [.v (.string ⟨#[32]⟩)]), (5, [iv 0])]) 2 (some [.ls 6 0 1 0])) 6 (some []), 7, (54, 0, 0)⟩
theorem ph_start (s : ByteArray) {fr : List (Nat × AV)} {hp : Hp} (hs : slotsE fr [(2, .lp 0 0), (3, .lp 1 0), (4, .lp 2 0), (11, .fn (.func 85) [] [.lp 4 0, .lp 3 0, .lp 5 0])])
    (hr : rowsOk hp 6 [(0, zHum), (1, [iv 0]), (2, [.v (.slice none 0 0)]), (3, [.v (.string s)]), (4, [.v (.string ⟨#[32]⟩)]), (5, [iv 0])]) : Ent ⟨fr, hp, 6, (54, 0, 0)⟩ (phS s) := by
  refine (ent_rows _ hs rfl hr (Nat.le_refl _)).trans ?_
  exact ent_nil_cell (σ := ⟨[(2, .lp 0 0), (3, .lp 1 0), (4, .lp 2 0), (11, .fn (.func 85) [] [.lp 4 0, .lp 3 0, .lp 5 0])], hls [(0, zHum), (1, [iv 0]), (2, [.v (.slice none 0 0)]), (3, [.v (.string s)]), (4, [.v (.string ⟨#[32]⟩)]), (5, [iv 0])], 6, (54, 0, 0)⟩) (c := [.v (.slice none 0 0)]) 2 0 1 rfl rfl
theorem ph_lent (s : ByteArray) : ∀ i c, seqH s ⟨#[32]⟩ i = some c → i < 3 ∧ (phS s).hp (3 + i) = some c ∧ plainL c = true := by
  intro i c h
  match i, h with
  | 0, h => cases h; exact ⟨by decide, rfl, rfl⟩
  | 1, h => cases h; exact ⟨by decide, rfl, rfl⟩
  | 2, h => cases h; exact ⟨by decide, rfl, rfl⟩
  | i + 3, h => cases h
theorem ph_zero (P : List (List UInt8)) (s : ByteArray) : ∀ k c, phH P 0 k = some c → (phS s).hp k = some c ∧ ∀ i, i < 3 → 3 + i ≠ k := by
  intro k c h
  match k, h with
  | 0, h => cases h; exact ⟨rfl, fun i _ => by omega⟩
  | 1, h => cases h; exact ⟨rfl, fun i _ => by omega⟩
  | 2, h => cases h; exact ⟨rfl, fun i _ => by omega⟩
  | 3, h => cases h
  | 4, h => cases h
  | 5, h => cases h
  | 6, h => cases h; exact ⟨rfl, fun i _ => by omega⟩
  | k + 7, h => cases h
theorem cutL_length (c : UInt8) : ∀ l : List UInt8, (cutL c l).length ≤ l.length + 1
  | [] => by simp [cutL]
  | b :: r => by
    have ih := cutL_length c r
    rw [cutL]
    split
    · simp; omega
    · cases hc : cutL c r with
      | nil => simp [preL]
      | cons y q => rw [hc] at ih; simp [preL] at *; omega
theorem hvals_succ {P : List (List UInt8)} {t : Nat} {x : List UInt8} (hx : P[t]? = some x) : List.take t (hvals P t) ++ [numV x] = hvals P (t + 1) := by
  have hl : (hvals P t).length = t := by
    have := (List.getElem?_eq_some_iff.1 hx).1
    simp [hvals]; omega
  rw [List.take_of_length_le (by omega)]
  unfold hvals
  rw [List.take_add_one, hx]
  simp
theorem ph_next {P : List (List UInt8)} {t : Nat} {x : List UInt8} (hx : P[t]? = some x) (fr : List (Nat × AV)) (n : Nat × Nat × Nat) :
    endR (phH P (t + 1)) (t + 1 + 7) ⟨fr, hset (hset (hset (phH P t) (t + 6) none) (t + 7) (some (ints (List.take t (hvals P t) ++ [numV x])))) 2 (some [.ls (t + 7) 0 1 (t + 1)]), t + 7 + 1, n⟩ := by
  rw [hvals_succ hx]
  have a0 : (t + 7 == 0) = false := by rw [beq_eq_false_iff_ne]; omega
  have a1 : (t + 7 == 1) = false := by rw [beq_eq_false_iff_ne]; omega
  have b0 : (t + 6 == 0) = false := by rw [beq_eq_false_iff_ne]; omega
  have b1 : (t + 6 == 1) = false := by rw [beq_eq_false_iff_ne]; omega
  have c2 : (2 == t + 7) = false := by rw [beq_eq_false_iff_ne]; omega
  have e : t + 1 + 6 = t + 7 := by omega
  have e' : t + 1 + 7 = t + 7 + 1 := by omega
  refine ⟨⟨[], phH P (t + 1), t + 1 + 7, n⟩, ent_rows (fr := []) _ True.intro rfl ⟨⟨?_, by omega⟩, ⟨?_, by omega⟩, ⟨?_, by omega⟩, ⟨?_, by omega⟩, True.intro⟩ (by show t + 7 + 1 ≤ t + 1 + 7; omega), rfl, rfl⟩
  · simp [hset', a0, b0, phH, hls]
  · simp [hset', a1, b1, phH, hls]
  · rw [e]; simp [hset']
  · rw [e]; simp [hset', c2]
theorem c_ParseHumBad (s : ByteArray) (hs : s.size ≤ 100000) (q : Nat) (hq : q < (cutL 32 (bys s)).length) (hok : ∀ t l, t < q → (cutL 32 (bys s))[t]? = some l → okH t l = true) (hbad : ∀ l, (cutL 32 (bys s))[q]? = some l → okH q l = false) :
    Pure Tryz.prog 14 [.v (.string s)] (.tu [.ag zHum, iv 7]) := by
  obtain ⟨P, hP⟩ : ∃ P, P = cutL 32 (bys s) := ⟨_, rfl⟩
  have hit := it_split s 32 (phY P (q + 1)) (fun t => t != q) (q + 1) (by omega) (show q + 1 ≤ (cutL 32 (bys s)).length by omega) (by omega) (fun t ht => by unfold phY; rw [decide_eq_true ht, cond_true, hP]) (fun t ht => by simp; omega) (fun _ => by simp)
  rw [← hP] at hq hok hbad
  refine p_intro evOk [2, 3, 4, 8, 11, 33] Tryz.func14 rfl Tryz.call14 ?_
  repeat' first
   | refine v_seq ?_ | refine v_block ?_ | refine v_ret ?_ | refine v_skip ?_ | (refine v_exit ?_; repeat' first | refine xB_eq ?_ | refine xB_ne rfl ?_)
   | ((first | refine rgA fun K hK => ?_ | refine rgB rfl fun K hK => ?_ | refine rgC rfl fun K hK => ?_); simp only [go_sem,simprocAttr])
   | (simp (disch := first | omega | rfl | (simp only [lnn]; omega)) only [spl])
   | (refine hK _ ?_; clear hK K)
   | (refine gdB_intro (fun h => ?_) (fun h => ?_) <;> simp only [go_sem,simprocAttr,h] <;> (have h' := h; try simp only [bl] at h'))
   | (refine v_cond rfl (fun h => ?_) (fun h => ?_) <;> first | (exact Bool.noConfusion h) | (have h' := h; try simp only [bl] at h'))
   | (refine r_ret ?_; simp only [resL, resA, Tryz.f14, lk_cons', lk_nil', Nat.reduceBEq]; first | exact ⟨rfl, Sb.nil _, rfl⟩ | refine ⟨rfl, sbt ?_, rfl⟩ | refine ⟨rfl, Sb.of_eq ?_, rfl⟩)
   | (refine And.intro (by first | exact True.intro | omega | rfl | exact Nat.le_of_ble_eq_true rfl | (simp only [lnn]; omega) | exact List.forall_mem_nil _ | (refine List.forall_mem_cons.2 ⟨⟨_, rfl⟩, ?_⟩; repeat' first | exact List.forall_mem_nil _ | refine List.forall_mem_cons.2 ⟨⟨_, rfl⟩, ?_⟩)) ?_)
   | (refine m_SplitSeq _ _ s _ _ ?_; simp only [cmK, go_sem,simprocAttr])
   | fail
  refine vc_ent (ph_start s (by (repeat' first | exact trivial | refine ⟨?_, ?_⟩ | rfl)) ⟨⟨rfl, by omega⟩, ⟨rfl, by omega⟩, ⟨rfl, by omega⟩, ⟨rfl, by omega⟩, ⟨rfl, by omega⟩, ⟨rfl, by omega⟩, True.intro⟩) ?_
  refine v_rangeLX evOk (fun t => if t ≤ q then phH P t else hls [(0, zHum), (1, [iv 7])]) (fun t => t + 7) (q := 3) (H0 := seqH s ⟨#[32]⟩) rfl (fun i => 3 + i) (fun β β0 O w vs h hr => rs_lp3 3 β β0 O w vs h hr) (ph_lent s) (fun i hi => ?_) (fun i j _ _ h => by omega) hit ?_ ?_ rfl ?_ ?_ ?_ ?_
  · match i, hi with
    | 0, _ => simp [seqH, hset']
    | 1, _ => simp [seqH, hset']
    | 2, _ => simp [seqH, hset']
  · intro t avs h
    unfold phY at h
    by_cases ht : t < q + 1
    · omega
    · rw [decide_eq_false ht] at h; cases h
  · rw [if_pos (Nat.zero_le _)]
    exact ph_zero P s
  · intro t avs h
    obtain ⟨l, _, rfl⟩ := phY_some h
    rfl
  · intro p hp
    have : p = 12 := by simpa using hp
    subst this; exact Nat.le_of_ble_eq_true rfl
  · intro t avs l h
    obtain ⟨x, ⟨ht, hx⟩, rfl⟩ := phY_some h
    rw [if_pos (show t ≤ q by omega)]
    have hxl : x.length ≤ (bys s).length := cutL_size 32 (bys s) x (by rw [← hP]; exact List.mem_of_getElem? hx)
    have hsl : (bys s).length = s.size := rfl
    have hPl : P.length ≤ s.size + 1 := by rw [hP]; exact cutL_length 32 (bys s)
    have kn : Pure Tryz.prog 42 [.v (.string ⟨x.toArray⟩)] (.tu [iv (numV x), .v (.bool (numP 6 x))]) := c_number ⟨x.toArray⟩ (by show x.length ≤ _; omega)
    have p2 : phH P t 2 = some [.ls (t + 6) 0 1 t] := rfl
    have p6 : phH P t (t + 6) = some (ints (hvals P t)) := ph_row P t
    have hvl : (hvals P t).length = t := by
      have := (List.getElem?_eq_some_iff.1 hx).1
      simp [hvals]; omega
    by_cases e : t = q
    · have hb := hbad x (e ▸ hx)
      rw [if_neg (show ¬ t + 1 ≤ q by omega)]
      unfold okH at hb
      have ht0 : (decide (t < 2)) = decide ((t : Int) < 2) := by simp; omega
      subst e
      cases h1 : numP 6 x <;> cases h2 : decide (numV x < 0) <;> cases h3 : decide ((t : Int) < 2)
      all_goals
        try (exfalso; rw [h1, h2, ht0, h3] at hb; simp at hb; done)
      all_goals
        rw [h1] at kn
        repeat' first
         | refine v_seq ?_ | refine v_block ?_ | refine v_ret ?_ | refine v_skip ?_ | (refine v_exit ?_; repeat' first | refine xB_eq ?_ | refine xB_ne rfl ?_)
         | ((first | refine v_region (evOk.inR l) (fun K hK => ?_) | refine v_draw' (evOk.inR l) rfl (fun K hK => ?_) | refine v_drawF (evOk.inR l) rfl rfl (fun K hK => ?_)); simp only [go_sem,simprocAttr,h2,h3,putL,phS,p2,p6,hset_at,hset_hset])
         | (simp (disch := first | omega | rfl | (simp only [lnn]; omega)) only [spl])
         | (refine hK _ ?_; clear hK K)
         | (refine gdB_intro (fun h => ?_) (fun h => ?_) <;> simp only [go_sem,simprocAttr,h,h2,h3,putL,phS,p2,p6,hset_at,hset_hset] <;> (have h' := h; try simp only [bl] at h'))
         | (refine v_cond rfl (fun h => ?_) (fun h => ?_) <;> first | (exact Bool.noConfusion h) | (have h' := h; try simp only [bl] at h'))
         | (refine r_ret ?_; simp only [resL, resA, Tryz.f14, lk_cons', lk_nil', Nat.reduceBEq]; first | exact ⟨rfl, Sb.nil _, rfl⟩ | refine ⟨rfl, sbt ?_, rfl⟩ | refine ⟨rfl, Sb.of_eq ?_, rfl⟩)
         | (refine And.intro (by first | exact True.intro | omega | rfl | exact Nat.le_of_ble_eq_true rfl | (simp only [lnn]; omega) | exact List.forall_mem_nil _ | (refine List.forall_mem_cons.2 ⟨⟨_, rfl⟩, ?_⟩; repeat' first | exact List.forall_mem_nil _ | refine List.forall_mem_cons.2 ⟨⟨_, rfl⟩, ?_⟩)) ?_)
         | ((first | refine call_pure' (kn) rfl ?_); simp only [go_sem,simprocAttr,h2,h3,putL,phS,p2,p6,hset_at,hset_hset])
         | fail
      all_goals
        exact ⟨⟨[], hls [(0, zHum), (1, [iv 7])], t + 1 + 7, _⟩, ent_rows _ True.intro rfl ⟨⟨rfl, by omega⟩, ⟨rfl, by omega⟩, True.intro⟩ (by show t + 7 ≤ t + 1 + 7; omega), rfl, rfl⟩
    · have hb := hok t x (by omega) hx
      rw [if_pos (show t + 1 ≤ q by omega)]
      unfold okH at hb
      have ht0 : (decide (t < 2)) = decide ((t : Int) < 2) := by simp; omega
      cases h1 : numP 6 x <;> cases h2 : decide (numV x < 0) <;> cases h3 : decide ((t : Int) < 2)
      all_goals
        try (exfalso; rw [h1, h2, ht0, h3] at hb; simp at hb; done)
      all_goals
        rw [h1] at kn
        repeat' first
         | refine v_seq ?_ | refine v_block ?_ | refine v_ret ?_ | refine v_skip ?_ | (refine v_exit ?_; repeat' first | refine xB_eq ?_ | refine xB_ne rfl ?_)
         | ((first | refine v_region (evOk.inR l) (fun K hK => ?_) | refine v_draw' (evOk.inR l) rfl (fun K hK => ?_) | refine v_drawF (evOk.inR l) rfl rfl (fun K hK => ?_)); simp only [go_sem,simprocAttr,h2,h3,putL,phS,p2,p6,hset_at,hset_hset])
         | (simp (disch := first | omega | rfl | (simp only [lnn]; omega)) only [spl])
         | (refine hK _ ?_; clear hK K)
         | (refine gdB_intro (fun h => ?_) (fun h => ?_) <;> simp only [go_sem,simprocAttr,h,h2,h3,putL,phS,p2,p6,hset_at,hset_hset] <;> (have h' := h; try simp only [bl] at h'))
         | (refine v_cond rfl (fun h => ?_) (fun h => ?_) <;> first | (exact Bool.noConfusion h) | (have h' := h; try simp only [bl] at h'))
         | (refine r_ret ?_; simp only [resL, resA, Tryz.f14, lk_cons', lk_nil', Nat.reduceBEq]; first | exact ⟨rfl, Sb.nil _, rfl⟩ | refine ⟨rfl, sbt ?_, rfl⟩ | refine ⟨rfl, Sb.of_eq ?_, rfl⟩)
         | (refine And.intro (by first | exact True.intro | omega | rfl | exact Nat.le_of_ble_eq_true rfl | (simp only [lnn]; omega) | exact List.forall_mem_nil _ | (refine List.forall_mem_cons.2 ⟨⟨_, rfl⟩, ?_⟩; repeat' first | exact List.forall_mem_nil _ | refine List.forall_mem_cons.2 ⟨⟨_, rfl⟩, ?_⟩)) ?_)
         | ((first | refine call_pure' (kn) rfl ?_); simp only [go_sem,simprocAttr,h2,h3,putL,phS,p2,p6,hset_at,hset_hset])
         | fail
      all_goals
        first | exact ph_next hx _ _
  · rw [if_neg (show ¬ q + 1 ≤ q by omega)]
    refine r_ret ?_
    simp only [resL, resA, Tryz.f14, go_sem,simprocAttr,hls,phS]
    first | exact Sb.of_eq rfl | exact ⟨rfl, Sb.of_eq rfl⟩ | exact ⟨Sb.of_eq rfl, rfl⟩ | exact ⟨Nat.le_of_ble_eq_true rfl, Sb.of_eq rfl⟩
end Go.Proofs.YtpdecefdhkhlnaaGreatDoor

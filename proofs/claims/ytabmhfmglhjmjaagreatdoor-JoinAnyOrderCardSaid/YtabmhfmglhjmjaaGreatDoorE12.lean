import Derived.Test.YtabmhfmglhjmjaaGreatDoorE11
set_option maxRecDepth 100000
set_option maxHeartbeats 4000000
set_option linter.unusedSimpArgs false
set_option linter.unusedVariables false
set_option linter.unusedSectionVars false
namespace Go.Proofs.YtabmhfmglhjmjaaGreatDoor
open Go.Ab Go.RowKit
variable [Dr]
def gs7 (l : List ByteArray) (k : Nat) : ByteArray := l.getD k ⟨#[]⟩
def cIx (ts : List Tf) (l : List ByteArray) (k : Nat) : Int := idxP (fun j => nmEq (gt7 ts j).nm (gs7 l k)) ts.length
def cEr (ts : List Tf) (G : Nat) (l : List ByteArray) (k : Nat) : Int := bif decide (cIx ts l k < 0) then 6 else bif dvn ts G k (cIx ts l k).toNat == -1 then 14 else 0
def cErTo (ts : List Tf) (G : Nat) (l : List ByteArray) : Nat → Int
  | 0 => 0
  | k + 1 => bif cErTo ts G l k != 0 then cErTo ts G l k else cEr ts G l k
def cIxs (ts : List Tf) (l : List ByteArray) (k : Nat) : List Int := (List.range k).map (cIx ts l)
theorem cIxs_len (ts : List Tf) (l : List ByteArray) (k : Nat) : (cIxs ts l k).length = k := by simp [cIxs]
theorem cIxs_succ (ts : List Tf) (l : List ByteArray) (k : Nat) : cIxs ts l k ++ [cIx ts l k] = cIxs ts l (k + 1) := by simp [cIxs, List.range_succ]
theorem gi_cIxs {ts : List Tf} {l : List ByteArray} {m k : Nat} (h : k < m) : gi (cIxs ts l m) (k : Nat) = cIx ts l k := by simp [gi, cIxs, h]
def cErr (ts : List Tf) (G m : Nat) (l : List ByteArray) : Int := bif l.length != m then 10 else cErTo ts G l m
theorem cErTo_stop {ts : List Tf} {G : Nat} {l : List ByteArray} {k : Nat} (h : cErTo ts G l k = 0) (he : cEr ts G l k ≠ 0) : ∀ m, k < m → cErTo ts G l m = cEr ts G l k
  | 0, hm => absurd hm (by omega)
  | m + 1, hm => by
    by_cases hk : k = m
    · subst hk; rw [cErTo, h]; rfl
    · have := cErTo_stop h he m (by omega)
      rw [cErTo, this, show (cEr ts G l k != 0) = true by simpa using he]; rfl
theorem strs_at {l : List ByteArray} {k : Nat} (h : k < l.length) : (strs l)[k]? = some (.v (.string (gs7 l k))) := by
  unfold strs gs7
  rw [List.getElem?_map, List.getElem?_eq_getElem h, List.getD_eq_getElem?_getD, List.getElem?_eq_getElem h]; rfl
theorem c_chosen (ts : List Tf) (n g c : Int) (G m : Nat) (l : List ByteArray) (hT : Len ts.length) (hm : Len m) (hl : Len l.length) :
    Pure Tryz.prog 106 [tkX ts n g c G m, ssl l] (.tu [isl (bif cErr ts G m l == 0 then cIxs ts l m else []), iv (cErr ts G m l)]) := by
  unfold Len at hm hl
  have hT' := hT
  unfold Len at hT'
  have hdC := devC_len ts G m
  have hsl := strs_len l
  have hTl := tcs_len ts
  refine p_intro evOk [6] Tryz.func106 rfl Tryz.call106 ?_
  cases h0 : l.length != m
  · obtain rfl : l.length = m := by simpa using h0
    have hce : cErr ts G l.length l = cErTo ts G l l.length := by unfold cErr; rw [h0]; rfl
    have hne : ((l.length : Int) != (l.length : Nat)) = false := by simp
    rw [hce]
    repeat' first
     | refine v_seq ?_ | refine v_block ?_ | refine v_ret ?_ | refine v_skip ?_ | (refine v_exit ?_; repeat' first | refine xB_eq ?_ | refine xB_ne rfl ?_)
     | ((first | refine rgA fun K hK => ?_ | refine rgB rfl fun K hK => ?_ | refine rgC rfl fun K hK => ?_); simp only [go_sem,simprocAttr,hne,hdC])
     | (simp (disch := first | omega | rfl | (simp only [lnn]; omega)) only [spl])
     | (refine hK _ ?_; clear hK K)
     | (refine gdB_intro (fun h => ?_) (fun h => ?_) <;> simp only [go_sem,simprocAttr,h,hne,hdC] <;> (have h' := h; try simp only [bl] at h'))
     | (refine v_cond rfl (fun h => ?_) (fun h => ?_) <;> first | (exact Bool.noConfusion h) | (have h' := h; try simp only [bl] at h'))
     | (refine r_ret ?_; simp only [resL, resA, Tryz.f106, lk_cons', lk_nil', Nat.reduceBEq]; first | exact ⟨rfl, Sb.nil _, rfl⟩ | refine ⟨rfl, sbt ?_, rfl⟩ | refine ⟨rfl, Sb.of_eq ?_, rfl⟩)
     | (refine And.intro (by first | exact True.intro | omega | rfl | exact Nat.le_of_ble_eq_true rfl | (simp only [lnn]; omega) | exact List.forall_mem_nil _ | (refine List.forall_mem_cons.2 ⟨⟨_, rfl⟩, ?_⟩; repeat' first | exact List.forall_mem_nil _ | refine List.forall_mem_cons.2 ⟨⟨_, rfl⟩, ?_⟩)) ?_)
     | fail
    refine v_loop (T := Nat) (fun k => ⟨[(1, ssl l), (2, .pt [tsl ts, iv n, iv g, iv c, .sl 1 l.length (devC ts G l.length)] 0), (6, .ls k 0 1 k), (16, ssl l), (17, iv l.length), (18, iv k)], hls [(k, ints (cIxs ts l k))], k + 1, (45, 0, 0)⟩) (fun k => k ≤ l.length ∧ cErTo ts G l k = 0) (fun k => l.length - k) 0 ⟨by omega, rfl⟩ ?_ ?_
    · exact ent_rows [(0, ints (cIxs ts l 0))] (by (repeat' first | exact trivial | refine ⟨?_, ?_⟩ | rfl)) rfl ⟨⟨by simp [hset', hls, cIxs, ints], by (first | omega | (dsimp only; omega))⟩, True.intro⟩ (by (first | omega | (dsimp only; omega)))
    rintro k ⟨hk, hE⟩
    have hil : (ints (cIxs ts l k)).length = k := by rw [ints_length, cIxs_len]
    have htk : List.take k (ints (cIxs ts l k)) = ints (cIxs ts l k) := List.take_of_length_le (by omega)
    have htk2 : List.take k (cIxs ts l k) = cIxs ts l k := List.take_of_length_le (by rw [cIxs_len]; omega)
    have hcl := cIxs_len ts l k
    have e1 : (k + 1 == k) = false := beq_ne (by omega)
    by_cases hk2 : k < l.length
    · have hd : decide ((k : Int) < l.length) = true := decide_eq_true (by omega)
      have s1 : (strs l)[((k : Nat) : Int).toNat * 1]? = some (.v (.string (gs7 l k))) := by rw [Int.toNat_natCast, Nat.mul_one]; exact strs_at hk2
      have s1' : (strs l)[((k : Nat) : Int).toNat]? = some (.v (.string (gs7 l k))) := strs_at hk2
      have d1 : (devC ts G l.length)[((k : Nat) : Int).toNat * 1]? = some (isl (devRow ts G k)) := by rw [Int.toNat_natCast, Nat.mul_one]; exact devC_at (by omega)
      have d1' : (devC ts G l.length)[((k : Nat) : Int).toNat]? = some (isl (devRow ts G k)) := devC_at (by omega)
      have hdl := devRow_len ts G k
      have hsu : cErTo ts G l (k + 1) = cEr ts G l k := by rw [cErTo, hE]; rfl
      have ki := c_index ts (gs7 l k) hT
      have hcx : cIx ts l k = idxP (fun j => nmEq (gt7 ts j).nm (gs7 l k)) ts.length := rfl
      rw [← hcx] at ki
      rcases idxP_inv (p := fun j => nmEq (gt7 ts j).nm (gs7 l k)) (n := ts.length) with ⟨h1, _⟩ | ⟨i, h1, h2, _, _⟩
      · have hx : cIx ts l k = -1 := h1
        rw [hx] at ki
        have hce2 : cEr ts G l k = 6 := by unfold cEr; rw [hx]; rfl
        have hb : decide ((-1 : Int) < 0) = true := rfl
        rw [cErTo_stop hE (by rw [hce2]; decide) _ hk2, hce2]
        repeat' first
         | refine v_seq ?_ | refine v_block ?_ | refine v_ret ?_ | refine v_skip ?_ | (refine v_exit ?_; repeat' first | refine xB_eq ?_ | refine xB_ne rfl ?_)
         | ((first | refine rgA fun K hK => ?_ | refine rgB rfl fun K hK => ?_ | refine rgC rfl fun K hK => ?_); simp only [go_sem,simprocAttr,hd,hb,hls,s1,s1',hsl])
         | (simp (disch := first | omega | rfl | (simp only [lnn]; omega)) only [spl])
         | (refine hK _ ?_; clear hK K)
         | (refine gdB_intro (fun h => ?_) (fun h => ?_) <;> simp only [go_sem,simprocAttr,h,hd,hb,hls,s1,s1',hsl] <;> (have h' := h; try simp only [bl] at h'))
         | (refine v_cond rfl (fun h => ?_) (fun h => ?_) <;> first | (exact Bool.noConfusion h) | (have h' := h; try simp only [bl] at h'))
         | (refine r_ret ?_; simp only [resL, resA, Tryz.f106, lk_cons', lk_nil', Nat.reduceBEq]; first | exact ⟨rfl, Sb.nil _, rfl⟩ | refine ⟨rfl, sbt ?_, rfl⟩ | refine ⟨rfl, Sb.of_eq ?_, rfl⟩)
         | (refine And.intro (by first | exact True.intro | omega | rfl | exact Nat.le_of_ble_eq_true rfl | (simp only [lnn]; omega) | exact List.forall_mem_nil _ | (refine List.forall_mem_cons.2 ⟨⟨_, rfl⟩, ?_⟩; repeat' first | exact List.forall_mem_nil _ | refine List.forall_mem_cons.2 ⟨⟨_, rfl⟩, ?_⟩)) ?_)
         | ((first | refine call_pure' (ki) rfl ?_); simp only [go_sem,simprocAttr,hd,hb,hls,s1,s1',hsl])
         | (simp only [go_sem,simprocAttr,s1,s1',hsl])
         | fail
        all_goals rfl
      · have hx : cIx ts l k = (i : Nat) := h1
        rw [hx] at ki
        have hb : decide ((i : Int) < 0) = false := decide_eq_false (by omega)
        have hgd : gi (devRow ts G k) (i : Nat) = dvn ts G k i := gi_devRow h2
        have hce2 : cEr ts G l k = bif dvn ts G k i == -1 then 14 else 0 := by unfold cEr; rw [hx, hb, cond_false, Int.toNat_natCast]
        cases hz : dvn ts G k i == -1
        · rw [hz, cond_false] at hce2
          repeat' first
           | refine v_seq ?_ | refine v_block ?_ | refine v_ret ?_ | refine v_skip ?_ | (refine v_exit ?_; repeat' first | refine xB_eq ?_ | refine xB_ne rfl ?_)
           | ((first | refine rgA fun K hK => ?_ | refine rgB rfl fun K hK => ?_ | refine rgC rfl fun K hK => ?_); simp only [go_sem,simprocAttr,hd,hb,hls,s1,s1',hsl,d1,d1',hdC,hgd,hz,hil,hcl,htk,e1,hset_at])
           | (simp (disch := first | omega | rfl | (simp only [lnn]; omega)) only [spl])
           | (refine hK _ ?_; clear hK K)
           | (refine gdB_intro (fun h => ?_) (fun h => ?_) <;> simp only [go_sem,simprocAttr,h,hd,hb,hls,s1,s1',hsl,d1,d1',hdC,hgd,hz,hil,hcl,htk,e1,hset_at] <;> (have h' := h; try simp only [bl] at h'))
           | (refine v_cond rfl (fun h => ?_) (fun h => ?_) <;> first | (exact Bool.noConfusion h) | (have h' := h; try simp only [bl] at h'))
           | (refine r_ret ?_; simp only [resL, resA, Tryz.f106, lk_cons', lk_nil', Nat.reduceBEq]; first | exact ⟨rfl, Sb.nil _, rfl⟩ | refine ⟨rfl, sbt ?_, rfl⟩ | refine ⟨rfl, Sb.of_eq ?_, rfl⟩)
           | (refine And.intro (by first | exact True.intro | omega | rfl | exact Nat.le_of_ble_eq_true rfl | (simp only [lnn]; omega) | exact List.forall_mem_nil _ | (refine List.forall_mem_cons.2 ⟨⟨_, rfl⟩, ?_⟩; repeat' first | exact List.forall_mem_nil _ | refine List.forall_mem_cons.2 ⟨⟨_, rfl⟩, ?_⟩)) ?_)
           | ((first | refine call_pure' (ki) rfl ?_); simp only [go_sem,simprocAttr,hd,hb,hls,s1,s1',hsl,d1,d1',hdC,hgd,hz,hil,hcl,htk,e1,hset_at])
           | (simp only [go_sem,simprocAttr,s1,s1',hsl,d1,d1',hdC,isl,hil,htk])
           | (simp only [htk])
           | fail
          · exfalso
            have hz' : ¬dvn ts G k i = -1 := by simpa using hz
            omega
          refine ⟨k + 1, ?_, ⟨by omega, by rw [hsu, hce2]⟩, by omega⟩
          rw [← cIxs_succ, hx]
          exact ent_rows [(k + 1, ints (cIxs ts l k ++ [((i : Nat) : Int)]))] (by (repeat' first | exact trivial | refine ⟨?_, ?_⟩ | rfl)) rfl ⟨⟨by simp [hset', hls, htk2], by (first | omega | (dsimp only; omega))⟩, True.intro⟩ (by (first | omega | (dsimp only; omega)))
        · rw [hz, cond_true] at hce2
          rw [cErTo_stop hE (by rw [hce2]; decide) _ hk2, hce2]
          repeat' first
           | refine v_seq ?_ | refine v_block ?_ | refine v_ret ?_ | refine v_skip ?_ | (refine v_exit ?_; repeat' first | refine xB_eq ?_ | refine xB_ne rfl ?_)
           | ((first | refine rgA fun K hK => ?_ | refine rgB rfl fun K hK => ?_ | refine rgC rfl fun K hK => ?_); simp only [go_sem,simprocAttr,hd,hb,hls,s1,s1',hsl,d1,d1',hdC,hgd,hz])
           | (simp (disch := first | omega | rfl | (simp only [lnn]; omega)) only [spl])
           | (refine hK _ ?_; clear hK K)
           | (refine gdB_intro (fun h => ?_) (fun h => ?_) <;> simp only [go_sem,simprocAttr,h,hd,hb,hls,s1,s1',hsl,d1,d1',hdC,hgd,hz] <;> (have h' := h; try simp only [bl] at h'))
           | (refine v_cond rfl (fun h => ?_) (fun h => ?_) <;> first | (exact Bool.noConfusion h) | (have h' := h; try simp only [bl] at h'))
           | (refine r_ret ?_; simp only [resL, resA, Tryz.f106, lk_cons', lk_nil', Nat.reduceBEq]; first | exact ⟨rfl, Sb.nil _, rfl⟩ | refine ⟨rfl, sbt ?_, rfl⟩ | refine ⟨rfl, Sb.of_eq ?_, rfl⟩)
           | (refine And.intro (by first | exact True.intro | omega | rfl | exact Nat.le_of_ble_eq_true rfl | (simp only [lnn]; omega) | exact List.forall_mem_nil _ | (refine List.forall_mem_cons.2 ⟨⟨_, rfl⟩, ?_⟩; repeat' first | exact List.forall_mem_nil _ | refine List.forall_mem_cons.2 ⟨⟨_, rfl⟩, ?_⟩)) ?_)
           | ((first | refine call_pure' (ki) rfl ?_); simp only [go_sem,simprocAttr,hd,hb,hls,s1,s1',hsl,d1,d1',hdC,hgd,hz])
           | (simp only [go_sem,simprocAttr,s1,s1',hsl,d1,d1',hdC,isl])
           | fail
          · exfalso
            have hz' : dvn ts G k i = -1 := by simpa using hz
            omega
    · obtain rfl : k = l.length := by omega
      have hd : decide ((l.length : Int) < l.length) = false := decide_eq_false (by omega)
      rw [hE]
      repeat' first
       | refine v_seq ?_ | refine v_block ?_ | refine v_ret ?_ | refine v_skip ?_ | (refine v_exit ?_; repeat' first | refine xB_eq ?_ | refine xB_ne rfl ?_)
       | ((first | refine rgA fun K hK => ?_ | refine rgB rfl fun K hK => ?_ | refine rgC rfl fun K hK => ?_); simp only [go_sem,simprocAttr,hd,hls])
       | (simp (disch := first | omega | rfl | (simp only [lnn]; omega)) only [spl])
       | (refine hK _ ?_; clear hK K)
       | (refine gdB_intro (fun h => ?_) (fun h => ?_) <;> simp only [go_sem,simprocAttr,h,hd,hls] <;> (have h' := h; try simp only [bl] at h'))
       | (refine v_cond rfl (fun h => ?_) (fun h => ?_) <;> first | (exact Bool.noConfusion h) | (have h' := h; try simp only [bl] at h'))
       | (refine r_ret ?_; simp only [resL, resA, Tryz.f106, lk_cons', lk_nil', Nat.reduceBEq]; first | exact ⟨rfl, Sb.nil _, rfl⟩ | refine ⟨rfl, sbt ?_, rfl⟩ | refine ⟨rfl, Sb.of_eq ?_, rfl⟩)
       | (refine And.intro (by first | exact True.intro | omega | rfl | exact Nat.le_of_ble_eq_true rfl | (simp only [lnn]; omega) | exact List.forall_mem_nil _ | (refine List.forall_mem_cons.2 ⟨⟨_, rfl⟩, ?_⟩; repeat' first | exact List.forall_mem_nil _ | refine List.forall_mem_cons.2 ⟨⟨_, rfl⟩, ?_⟩)) ?_)
       | fail
      refine r_freeze l.length (hset_at emp _ _) (ints_plain _) (r_ret ?_)
      have hfz9 : AV.fz l.length (ints (cIxs ts l l.length)) (.ls l.length 0 1 l.length) = isl (cIxs ts l l.length) := fz_isl (by omega)
      simp only [resL, resA, Tryz.f106, fzF, hfz9, fz_other, lk_cons', lk_nil', Nat.reduceBEq]
      exact ⟨by simp [plainL, AV.plain, ints_plain, isl], Sb.of_eq rfl, by simp [plainL, AV.plain, ints_plain, isl]⟩
  · have hce : cErr ts G m l = 10 := by unfold cErr; rw [h0]; rfl
    have hn1 : l.length ≠ m := by simpa using h0
    have hne : ((l.length : Int) != (m : Nat)) = true := by rw [bne_iff_ne]; omega
    rw [hce]
    repeat' first
     | refine v_seq ?_ | refine v_block ?_ | refine v_ret ?_ | refine v_skip ?_ | (refine v_exit ?_; repeat' first | refine xB_eq ?_ | refine xB_ne rfl ?_)
     | ((first | refine rgA fun K hK => ?_ | refine rgB rfl fun K hK => ?_ | refine rgC rfl fun K hK => ?_); simp only [go_sem,simprocAttr,hne,hdC,hsl])
     | (simp (disch := first | omega | rfl | (simp only [lnn]; omega)) only [spl])
     | (refine hK _ ?_; clear hK K)
     | (refine gdB_intro (fun h => ?_) (fun h => ?_) <;> simp only [go_sem,simprocAttr,h,hne,hdC,hsl] <;> (have h' := h; try simp only [bl] at h'))
     | (refine v_cond rfl (fun h => ?_) (fun h => ?_) <;> first | (exact Bool.noConfusion h) | (have h' := h; try simp only [bl] at h'))
     | (refine r_ret ?_; simp only [resL, resA, Tryz.f106, lk_cons', lk_nil', Nat.reduceBEq]; first | exact ⟨rfl, Sb.nil _, rfl⟩ | refine ⟨rfl, sbt ?_, rfl⟩ | refine ⟨rfl, Sb.of_eq ?_, rfl⟩)
     | (refine And.intro (by first | exact True.intro | omega | rfl | exact Nat.le_of_ble_eq_true rfl | (simp only [lnn]; omega) | exact List.forall_mem_nil _ | (refine List.forall_mem_cons.2 ⟨⟨_, rfl⟩, ?_⟩; repeat' first | exact List.forall_mem_nil _ | refine List.forall_mem_cons.2 ⟨⟨_, rfl⟩, ?_⟩)) ?_)
     | fail
    all_goals rfl
end Go.Proofs.YtabmhfmglhjmjaaGreatDoor

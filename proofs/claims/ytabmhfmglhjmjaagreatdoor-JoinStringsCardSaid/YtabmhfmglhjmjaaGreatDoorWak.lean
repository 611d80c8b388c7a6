/- Parts of the proof, put together by a program. -/
import Derived.Shelf.Strings.OnBuilder
import Derived.Shelf.Strconv.Itoa3
import Derived.Test.YtabmhfmglhjmjaaGreatDoorProg
import Derived.KernelRfl
import Derived.Lib.LaidTab
import Derived.Shelf.Strings.Split
import Derived.Shelf.Strings.Prefix
import Derived.Shelf.Strconv.AtoiAll
import Derived.Shelf.Strconv.ErrVarAll
import Derived.Lib.AppendIntMem
import Derived.Test.YtabmhfmglhjmjaaGreatDoorWaj
set_option maxRecDepth 100000
set_option maxHeartbeats 4000000
set_option linter.unusedSimpArgs false
set_option linter.unusedVariables false
set_option linter.unusedSectionVars false
namespace Go.Proofs.YtabmhfmglhjmjaaGreatDoor
open Go.Ab Go.RowKit
variable [Dr]
def gs7 (l : List ByteArray) (k : Nat) : ByteArray := l.getD k ⟨#[]⟩
def cIx (ts : List Tf) (l : List ByteArray) (k : Nat) : Int := idxP (fun j => nmEq (gt7 ts j).nm (gs7 l k)) ts.length
def cEr (ts : List Tf) (G : Nat) (l : List ByteArray) (k : Nat) : Int := bif decide (cIx ts l k < 0) then 6 else bif dvn ts G k (cIx ts l k).toNat == -1 then 14 else 0
def cErTo (ts : List Tf) (G : Nat) (l : List ByteArray) : Nat → Int
  | 0 => 0
  | k + 1 => bif cErTo ts G l k != 0 then cErTo ts G l k else cEr ts G l k
def cIxs (ts : List Tf) (l : List ByteArray) (k : Nat) : List Int := (List.range k).map (cIx ts l)
theorem cIxs_len (ts : List Tf) (l : List ByteArray) (k : Nat) : (cIxs ts l k).length = k := by simp [cIxs]
theorem cIxs_succ (ts : List Tf) (l : List ByteArray) (k : Nat) : cIxs ts l k ++ [cIx ts l k] = cIxs ts l (k + 1) := by simp [cIxs, List.range_succ]
theorem gi_cIxs {ts : List Tf} {l : List ByteArray} {m k : Nat} (h : k < m) : gi (cIxs ts l m) (k : Nat) = cIx ts l k := by simp [gi, cIxs, h]
def cErr (ts : List Tf) (G m : Nat) (l : List ByteArray) : Int := bif l.length != m then 10 else cErTo ts G l m
theorem cErTo_stop {ts : List Tf} {G : Nat} {l : List ByteArray} {k : Nat} (h : cErTo ts G l k = 0) (he : cEr ts G l k ≠ 0) : ∀ m, k < m → cErTo ts G l m = cEr ts G l k
  | 0, hm => absurd hm (by omega)
  | m + 1, hm => by
    by_cases hk : k = m
    · subst hk; rw [cErTo, h]; rfl
    · have := cErTo_stop h he m (by omega)
      rw [cErTo, this, show (cEr ts G l k != 0) = true by simpa using he]; rfl
theorem strs_at {l : List ByteArray} {k : Nat} (h : k < l.length) : (strs l)[k]? = some (.v (.string (gs7 l k))) := by
  unfold strs gs7
  rw [List.getElem?_map, List.getElem?_eq_getElem h, List.getD_eq_getElem?_getD, List.getElem?_eq_getElem h]; rfl
theorem c_chosen (ts : List Tf) (n g c : Int) (G m : Nat) (l : List ByteArray) (hT : Len ts.length) (hm : Len m) (hl : Len l.length) :
    Pure Tryz.prog 106 [tkX ts n g c G m, ssl l] (.tu [isl (bif cErr ts G m l == 0 then cIxs ts l m else []), iv (cErr ts G m l)]) := by
  unfold Len at hm hl
  have hT' := hT
  unfold Len at hT'
  have hdC := devC_len ts G m
  have hsl := strs_len l
  have hTl := tcs_len ts
  refine p_intro evOk [6] Tryz.func106 rfl Tryz.call106 ?_
  cases h0 : l.length != m
  · obtain rfl : l.length = m := by simpa using h0
    have hce : cErr ts G l.length l = cErTo ts G l l.length := by unfold cErr; rw [h0]; rfl
    have hne : ((l.length : Int) != (l.length : Nat)) = false := by simp
    rw [hce]
    repeat' first
     | refine v_seq ?_ | refine v_block ?_ | refine v_ret ?_ | refine v_skip ?_ | (refine v_exit ?_; repeat' first | refine xB_eq ?_ | refine xB_ne rfl ?_)
     | ((first | refine rgA fun K hK => ?_ | refine rgB rfl fun K hK => ?_ | refine rgC rfl fun K hK => ?_); simp only [go_sem,simprocAttr,hne,hdC])
     | (simp (disch := first | omega | rfl | (simp only [lnn]; omega)) only [spl])
     | (refine hK _ ?_; clear hK K)
     | (refine gdB_intro (fun h => ?_) (fun h => ?_) <;> simp only [go_sem,simprocAttr,h,hne,hdC] <;> (have h' := h; try simp only [bl] at h'))
     | (refine v_cond rfl (fun h => ?_) (fun h => ?_) <;> first | (exact Bool.noConfusion h) | (have h' := h; try simp only [bl] at h'))
     | (refine r_ret ?_; simp only [resL, resA, Tryz.f106, lk_cons', lk_nil', Nat.reduceBEq]; first | exact ⟨rfl, Sb.nil _, rfl⟩ | refine ⟨rfl, sbt ?_, rfl⟩ | refine ⟨rfl, Sb.of_eq ?_, rfl⟩)
     | (refine And.intro (by first | exact True.intro | omega | rfl | exact Nat.le_of_ble_eq_true rfl | (simp only [lnn]; omega) | exact List.forall_mem_nil _ | (refine List.forall_mem_cons.2 ⟨⟨_, rfl⟩, ?_⟩; repeat' first | exact List.forall_mem_nil _ | refine List.forall_mem_cons.2 ⟨⟨_, rfl⟩, ?_⟩)) ?_)
     | fail
    refine v_loop (T := Nat) (fun k => ⟨[(1, ssl l), (2, .pt [tsl ts, iv n, iv g, iv c, .sl 1 l.length (devC ts G l.length)] 0), (6, .ls k 0 1 k), (16, ssl l), (17, iv l.length), (18, iv k)], hls [(k, ints (cIxs ts l k))], k + 1, (45, 0, 0)⟩) (fun k => k ≤ l.length ∧ cErTo ts G l k = 0) (fun k => l.length - k) 0 ⟨by omega, rfl⟩ ?_ ?_
    · exact ent_rows [(0, ints (cIxs ts l 0))] (by (repeat' first | exact trivial | refine ⟨?_, ?_⟩ | rfl)) rfl ⟨⟨by simp [hset', hls, cIxs, ints], by (first | omega | (dsimp only; omega))⟩, True.intro⟩ (by (first | omega | (dsimp only; omega)))
    rintro k ⟨hk, hE⟩
    have hil : (ints (cIxs ts l k)).length = k := by rw [ints_length, cIxs_len]
    have htk : List.take k (ints (cIxs ts l k)) = ints (cIxs ts l k) := List.take_of_length_le (by omega)
    have htk2 : List.take k (cIxs ts l k) = cIxs ts l k := List.take_of_length_le (by rw [cIxs_len]; omega)
    have hcl := cIxs_len ts l k
    have e1 : (k + 1 == k) = false := beq_ne (by omega)
    by_cases hk2 : k < l.length
    · have hd : decide ((k : Int) < l.length) = true := decide_eq_true (by omega)
      have s1 : (strs l)[((k : Nat) : Int).toNat * 1]? = some (.v (.string (gs7 l k))) := by rw [Int.toNat_natCast, Nat.mul_one]; exact strs_at hk2
      have s1' : (strs l)[((k : Nat) : Int).toNat]? = some (.v (.string (gs7 l k))) := strs_at hk2
      have d1 : (devC ts G l.length)[((k : Nat) : Int).toNat * 1]? = some (isl (devRow ts G k)) := by rw [Int.toNat_natCast, Nat.mul_one]; exact devC_at (by omega)
      have d1' : (devC ts G l.length)[((k : Nat) : Int).toNat]? = some (isl (devRow ts G k)) := devC_at (by omega)
      have hdl := devRow_len ts G k
      have hsu : cErTo ts G l (k + 1) = cEr ts G l k := by rw [cErTo, hE]; rfl
      have ki := c_index ts (gs7 l k) hT
      have hcx : cIx ts l k = idxP (fun j => nmEq (gt7 ts j).nm (gs7 l k)) ts.length := rfl
      rw [← hcx] at ki
      rcases idxP_inv (p := fun j => nmEq (gt7 ts j).nm (gs7 l k)) (n := ts.length) with ⟨h1, _⟩ | ⟨i, h1, h2, _, _⟩
      · have hx : cIx ts l k = -1 := h1
        rw [hx] at ki
        have hce2 : cEr ts G l k = 6 := by unfold cEr; rw [hx]; rfl
        have hb : decide ((-1 : Int) < 0) = true := rfl
        rw [cErTo_stop hE (by rw [hce2]; decide) _ hk2, hce2]
        repeat' first
         | refine v_seq ?_ | refine v_block ?_ | refine v_ret ?_ | refine v_skip ?_ | (refine v_exit ?_; repeat' first | refine xB_eq ?_ | refine xB_ne rfl ?_)
         | ((first | refine rgA fun K hK => ?_ | refine rgB rfl fun K hK => ?_ | refine rgC rfl fun K hK => ?_); simp only [go_sem,simprocAttr,hd,hb,hls,s1,s1',hsl])
         | (simp (disch := first | omega | rfl | (simp only [lnn]; omega)) only [spl])
         | (refine hK _ ?_; clear hK K)
         | (refine gdB_intro (fun h => ?_) (fun h => ?_) <;> simp only [go_sem,simprocAttr,h,hd,hb,hls,s1,s1',hsl] <;> (have h' := h; try simp only [bl] at h'))
         | (refine v_cond rfl (fun h => ?_) (fun h => ?_) <;> first | (exact Bool.noConfusion h) | (have h' := h; try simp only [bl] at h'))
         | (refine r_ret ?_; simp only [resL, resA, Tryz.f106, lk_cons', lk_nil', Nat.reduceBEq]; first | exact ⟨rfl, Sb.nil _, rfl⟩ | refine ⟨rfl, sbt ?_, rfl⟩ | refine ⟨rfl, Sb.of_eq ?_, rfl⟩)
         | (refine And.intro (by first | exact True.intro | omega | rfl | exact Nat.le_of_ble_eq_true rfl | (simp only [lnn]; omega) | exact List.forall_mem_nil _ | (refine List.forall_mem_cons.2 ⟨⟨_, rfl⟩, ?_⟩; repeat' first | exact List.forall_mem_nil _ | refine List.forall_mem_cons.2 ⟨⟨_, rfl⟩, ?_⟩)) ?_)
         | ((first | refine call_pure' (ki) rfl ?_); simp only [go_sem,simprocAttr,hd,hb,hls,s1,s1',hsl])
         | (simp only [go_sem,simprocAttr,s1,s1',hsl])
         | fail
        all_goals rfl
      · have hx : cIx ts l k = (i : Nat) := h1
        rw [hx] at ki
        have hb : decide ((i : Int) < 0) = false := decide_eq_false (by omega)
        have hgd : gi (devRow ts G k) (i : Nat) = dvn ts G k i := gi_devRow h2
        have hce2 : cEr ts G l k = bif dvn ts G k i == -1 then 14 else 0 := by unfold cEr; rw [hx, hb, cond_false, Int.toNat_natCast]
        cases hz : dvn ts G k i == -1
        · rw [hz, cond_false] at hce2
          repeat' first
           | refine v_seq ?_ | refine v_block ?_ | refine v_ret ?_ | refine v_skip ?_ | (refine v_exit ?_; repeat' first | refine xB_eq ?_ | refine xB_ne rfl ?_)
           | ((first | refine rgA fun K hK => ?_ | refine rgB rfl fun K hK => ?_ | refine rgC rfl fun K hK => ?_); simp only [go_sem,simprocAttr,hd,hb,hls,s1,s1',hsl,d1,d1',hdC,hgd,hz,hil,hcl,htk,e1,hset_at])
           | (simp (disch := first | omega | rfl | (simp only [lnn]; omega)) only [spl])
           | (refine hK _ ?_; clear hK K)
           | (refine gdB_intro (fun h => ?_) (fun h => ?_) <;> simp only [go_sem,simprocAttr,h,hd,hb,hls,s1,s1',hsl,d1,d1',hdC,hgd,hz,hil,hcl,htk,e1,hset_at] <;> (have h' := h; try simp only [bl] at h'))
           | (refine v_cond rfl (fun h => ?_) (fun h => ?_) <;> first | (exact Bool.noConfusion h) | (have h' := h; try simp only [bl] at h'))
           | (refine r_ret ?_; simp only [resL, resA, Tryz.f106, lk_cons', lk_nil', Nat.reduceBEq]; first | exact ⟨rfl, Sb.nil _, rfl⟩ | refine ⟨rfl, sbt ?_, rfl⟩ | refine ⟨rfl, Sb.of_eq ?_, rfl⟩)
           | (refine And.intro (by first | exact True.intro | omega | rfl | exact Nat.le_of_ble_eq_true rfl | (simp only [lnn]; omega) | exact List.forall_mem_nil _ | (refine List.forall_mem_cons.2 ⟨⟨_, rfl⟩, ?_⟩; repeat' first | exact List.forall_mem_nil _ | refine List.forall_mem_cons.2 ⟨⟨_, rfl⟩, ?_⟩)) ?_)
           | ((first | refine call_pure' (ki) rfl ?_); simp only [go_sem,simprocAttr,hd,hb,hls,s1,s1',hsl,d1,d1',hdC,hgd,hz,hil,hcl,htk,e1,hset_at])
           | (simp only [go_sem,simprocAttr,s1,s1',hsl,d1,d1',hdC,isl,hil,htk])
           | (simp only [htk])
           | fail
          · exfalso
            have hz' : ¬dvn ts G k i = -1 := by simpa using hz
            omega
          refine ⟨k + 1, ?_, ⟨by omega, by rw [hsu, hce2]⟩, by omega⟩
          rw [← cIxs_succ, hx]
          exact ent_rows [(k + 1, ints (cIxs ts l k ++ [((i : Nat) : Int)]))] (by (repeat' first | exact trivial | refine ⟨?_, ?_⟩ | rfl)) rfl ⟨⟨by simp [hset', hls, htk2], by (first | omega | (dsimp only; omega))⟩, True.intro⟩ (by (first | omega | (dsimp only; omega)))
        · rw [hz, cond_true] at hce2
          rw [cErTo_stop hE (by rw [hce2]; decide) _ hk2, hce2]
          repeat' first
           | refine v_seq ?_ | refine v_block ?_ | refine v_ret ?_ | refine v_skip ?_ | (refine v_exit ?_; repeat' first | refine xB_eq ?_ | refine xB_ne rfl ?_)
           | ((first | refine rgA fun K hK => ?_ | refine rgB rfl fun K hK => ?_ | refine rgC rfl fun K hK => ?_); simp only [go_sem,simprocAttr,hd,hb,hls,s1,s1',hsl,d1,d1',hdC,hgd,hz])
           | (simp (disch := first | omega | rfl | (simp only [lnn]; omega)) only [spl])
           | (refine hK _ ?_; clear hK K)
           | (refine gdB_intro (fun h => ?_) (fun h => ?_) <;> simp only [go_sem,simprocAttr,h,hd,hb,hls,s1,s1',hsl,d1,d1',hdC,hgd,hz] <;> (have h' := h; try simp only [bl] at h'))
           | (refine v_cond rfl (fun h => ?_) (fun h => ?_) <;> first | (exact Bool.noConfusion h) | (have h' := h; try simp only [bl] at h'))
           | (refine r_ret ?_; simp only [resL, resA, Tryz.f106, lk_cons', lk_nil', Nat.reduceBEq]; first | exact ⟨rfl, Sb.nil _, rfl⟩ | refine ⟨rfl, sbt ?_, rfl⟩ | refine ⟨rfl, Sb.of_eq ?_, rfl⟩)
           | (refine And.intro (by first | exact True.intro | omega | rfl | exact Nat.le_of_ble_eq_true rfl | (simp only [lnn]; omega) | exact List.forall_mem_nil _ | (refine List.forall_mem_cons.2 ⟨⟨_, rfl⟩, ?_⟩; repeat' first | exact List.forall_mem_nil _ | refine List.forall_mem_cons.2 ⟨⟨_, rfl⟩, ?_⟩)) ?_)
           | ((first | refine call_pure' (ki) rfl ?_); simp only [go_sem,simprocAttr,hd,hb,hls,s1,s1',hsl,d1,d1',hdC,hgd,hz])
           | (simp only [go_sem,simprocAttr,s1,s1',hsl,d1,d1',hdC,isl])
           | fail
          · exfalso
            have hz' : dvn ts G k i = -1 := by simpa using hz
            omega
    · obtain rfl : k = l.length := by omega
      have hd : decide ((l.length : Int) < l.length) = false := decide_eq_false (by omega)
      rw [hE]
      repeat' first
       | refine v_seq ?_ | refine v_block ?_ | refine v_ret ?_ | refine v_skip ?_ | (refine v_exit ?_; repeat' first | refine xB_eq ?_ | refine xB_ne rfl ?_)
       | ((first | refine rgA fun K hK => ?_ | refine rgB rfl fun K hK => ?_ | refine rgC rfl fun K hK => ?_); simp only [go_sem,simprocAttr,hd,hls])
       | (simp (disch := first | omega | rfl | (simp only [lnn]; omega)) only [spl])
       | (refine hK _ ?_; clear hK K)
       | (refine gdB_intro (fun h => ?_) (fun h => ?_) <;> simp only [go_sem,simprocAttr,h,hd,hls] <;> (have h' := h; try simp only [bl] at h'))
       | (refine v_cond rfl (fun h => ?_) (fun h => ?_) <;> first | (exact Bool.noConfusion h) | (have h' := h; try simp only [bl] at h'))
       | (refine r_ret ?_; simp only [resL, resA, Tryz.f106, lk_cons', lk_nil', Nat.reduceBEq]; first | exact ⟨rfl, Sb.nil _, rfl⟩ | refine ⟨rfl, sbt ?_, rfl⟩ | refine ⟨rfl, Sb.of_eq ?_, rfl⟩)
       | (refine And.intro (by first | exact True.intro | omega | rfl | exact Nat.le_of_ble_eq_true rfl | (simp only [lnn]; omega) | exact List.forall_mem_nil _ | (refine List.forall_mem_cons.2 ⟨⟨_, rfl⟩, ?_⟩; repeat' first | exact List.forall_mem_nil _ | refine List.forall_mem_cons.2 ⟨⟨_, rfl⟩, ?_⟩)) ?_)
       | fail
      refine r_freeze l.length (hset_at emp _ _) (ints_plain _) (r_ret ?_)
      have hfz9 : AV.fz l.length (ints (cIxs ts l l.length)) (.ls l.length 0 1 l.length) = isl (cIxs ts l l.length) := fz_isl (by omega)
      simp only [resL, resA, Tryz.f106, fzF, hfz9, fz_other, lk_cons', lk_nil', Nat.reduceBEq]
      exact ⟨by simp [plainL, AV.plain, ints_plain, isl], Sb.of_eq rfl, by simp [plainL, AV.plain, ints_plain, isl]⟩
  · have hce : cErr ts G m l = 10 := by unfold cErr; rw [h0]; rfl
    have hn1 : l.length ≠ m := by simpa using h0
    have hne : ((l.length : Int) != (m : Nat)) = true := by rw [bne_iff_ne]; omega
    rw [hce]
    repeat' first
     | refine v_seq ?_ | refine v_block ?_ | refine v_ret ?_ | refine v_skip ?_ | (refine v_exit ?_; repeat' first | refine xB_eq ?_ | refine xB_ne rfl ?_)
     | ((first | refine rgA fun K hK => ?_ | refine rgB rfl fun K hK => ?_ | refine rgC rfl fun K hK => ?_); simp only [go_sem,simprocAttr,hne,hdC,hsl])
     | (simp (disch := first | omega | rfl | (simp only [lnn]; omega)) only [spl])
     | (refine hK _ ?_; clear hK K)
     | (refine gdB_intro (fun h => ?_) (fun h => ?_) <;> simp only [go_sem,simprocAttr,h,hne,hdC,hsl] <;> (have h' := h; try simp only [bl] at h'))
     | (refine v_cond rfl (fun h => ?_) (fun h => ?_) <;> first | (exact Bool.noConfusion h) | (have h' := h; try simp only [bl] at h'))
     | (refine r_ret ?_; simp only [resL, resA, Tryz.f106, lk_cons', lk_nil', Nat.reduceBEq]; first | exact ⟨rfl, Sb.nil _, rfl⟩ | refine ⟨rfl, sbt ?_, rfl⟩ | refine ⟨rfl, Sb.of_eq ?_, rfl⟩)
     | (refine And.intro (by first | exact True.intro | omega | rfl | exact Nat.le_of_ble_eq_true rfl | (simp only [lnn]; omega) | exact List.forall_mem_nil _ | (refine List.forall_mem_cons.2 ⟨⟨_, rfl⟩, ?_⟩; repeat' first | exact List.forall_mem_nil _ | refine List.forall_mem_cons.2 ⟨⟨_, rfl⟩, ?_⟩)) ?_)
     | fail
    all_goals rfl
end Go.Proofs.YtabmhfmglhjmjaaGreatDoor
set_option maxRecDepth 100000
set_option maxHeartbeats 4000000
set_option linter.unusedSimpArgs false
set_option linter.unusedVariables false
set_option linter.unusedSectionVars false
namespace Go.Proofs.YtabmhfmglhjmjaaGreatDoor
open Go.Ab Go.RowKit
variable [Dr]
structure Pc where
  fr : Int
  so : Int
  lag : Int
def pcA (p : Pc) : List AV := [iv p.fr, iv p.so, iv p.lag]
def plc (l : List Pc) : List AV := l.flatMap pcA
theorem plc_len (l : List Pc) : (plc l).length = l.length * 3 := fm_len (c := pcA) (fun _ => rfl) l
theorem plc_snoc (l : List Pc) (p : Pc) : plc (l ++ [p]) = plc l ++ [iv p.fr, iv p.so, iv p.lag] := by simp [plc, pcA]
theorem plc_one : ∀ l : List Pc, oneL (plc l) = true
  | [] => rfl
  | p :: l => by
    have := plc_one l
    unfold plc oneL at *
    rw [List.flatMap_cons, List.all_append, this]
    rfl
theorem plc_plain : ∀ l : List Pc, plainL (plc l) = true
  | [] => rfl
  | p :: l => by
    have h := plc_plain l
    unfold plc at h ⊢
    rw [List.flatMap_cons, pcA, List.cons_append, List.cons_append, List.cons_append, List.nil_append]
    simp only [plainL, AV.plain, h, Bool.and_self]
abbrev plS (l : List Pc) : AV := .sl 3 l.length (plc l)
abbrev plA (n : Int) (l : List Pc) : AV := .ag [iv n, plS l]
def pcOf (ts : List Tf) (g : Int) (is : List Int) (k : Nat) : Pc := ⟨k * g, gi is k, (gt7 ts (gi is k).toNat).lag⟩
def pnew (is : List Int) (k : Nat) : Bool := k == 0 || gi is ((k : Int) - 1) != gi is k
def plTo (ts : List Tf) (g : Int) (is : List Int) : Nat → List Pc
  | 0 => []
  | k + 1 => bif pnew is k then plTo ts g is k ++ [pcOf ts g is k] else plTo ts g is k
theorem plTo_len (ts : List Tf) (g : Int) (is : List Int) : ∀ k, (plTo ts g is k).length ≤ k
  | 0 => Nat.le_refl _
  | k + 1 => by
    have := plTo_len ts g is k
    unfold plTo
    cases pnew is k
    · exact Nat.le_succ_of_le this
    · rw [cond_true, List.length_append, List.length_singleton]; omega
theorem c_PlanOk (ts : List Tf) (n g c : Int) (N G : Nat) (l : List ByteArray) (hT : TkOk ts n g c N G) (hl : Len l.length) (hD : Pure Tryz.prog 93 [tkA ts n g c] (.tu [tkX ts n g c G N, iv 0]))
    (he : cErr ts G N l = 0) (hi : ∀ k, k < N → 0 ≤ cIx ts l k ∧ cIx ts l k < ts.length) :
    Pure Tryz.prog 35 [tkA ts n g c, ssl l] (.tu [plA n (plTo ts g (cIxs ts l N) N), iv 0]) := by
  have h6 := hT.ok.n6
  have hK20 := hT.K20
  have hdC := devC_len ts G N
  have hTl := tcs_len ts
  have kch := c_chosen ts n g c G N l (by unfold Len; omega) (by unfold Len; omega) hl
  rw [he] at kch
  change Pure _ _ _ (.tu [isl (cIxs ts l N), iv 0]) at kch
  have hcl := cIxs_len ts l N
  have hbx : ((0 : Int) != 0) = false := rfl
  have htk5 : ∀ a b c d e : AV, List.take 5 [a, b, c, d, e] = [a, b, c, d, e] := fun _ _ _ _ _ => rfl
  have hp5 : plainL [tsl ts, iv n, iv g, iv c, .sl 1 N (devC ts G N)] = true := by simp [plainL, AV.plain, tsl, tcs_plain, devC_plain]
  unfold tkA tkX at *
  refine p_intro evOk [4, 6, 9] Tryz.func35 rfl Tryz.call35 ?_
  repeat' first
   | refine v_seq ?_ | refine v_block ?_ | refine v_ret ?_ | refine v_skip ?_ | (refine v_exit ?_; repeat' first | refine xB_eq ?_ | refine xB_ne rfl ?_)
   | ((first | refine rgA fun K hK => ?_ | refine rgB rfl fun K hK => ?_ | refine rgC rfl fun K hK => ?_); simp only [go_sem,simprocAttr,hbx,hset_at,hset_hset,spl5,htk5])
   | (simp (disch := first | omega | rfl | (simp only [lnn]; omega)) only [spl])
   | (refine hK _ ?_; clear hK K)
   | (refine gdB_intro (fun h => ?_) (fun h => ?_) <;> simp only [go_sem,simprocAttr,h,hbx,hset_at,hset_hset,spl5,htk5] <;> (have h' := h; try simp only [bl] at h'))
   | (refine v_cond rfl (fun h => ?_) (fun h => ?_) <;> first | (exact Bool.noConfusion h) | (have h' := h; try simp only [bl] at h'))
   | (refine r_ret ?_; simp only [resL, resA, Tryz.f35, lk_cons', lk_nil', Nat.reduceBEq]; first | exact ⟨rfl, Sb.nil _, rfl⟩ | refine ⟨rfl, sbt ?_, rfl⟩ | refine ⟨rfl, Sb.of_eq ?_, rfl⟩)
   | (refine And.intro (by first | exact True.intro | omega | rfl | exact Nat.le_of_ble_eq_true rfl | (simp only [lnn]; omega) | exact List.forall_mem_nil _ | (refine List.forall_mem_cons.2 ⟨⟨_, rfl⟩, ?_⟩; repeat' first | exact List.forall_mem_nil _ | refine List.forall_mem_cons.2 ⟨⟨_, rfl⟩, ?_⟩)) ?_)
   | ((first | refine call_pure' (hD) rfl ?_ | refine call_pure' (kch) rfl ?_); simp only [go_sem,simprocAttr,hbx,hset_at,hset_hset,spl5,htk5])
   | fail
  generalize his : cIxs ts l N = is at *
  refine vc_ent (ent_rows (fr := [(2, .pt [tsl ts, iv n, iv g, iv c] 0), (4, .lp 0 0), (8, isl is), (9, .lp 2 0), (34, isl is), (35, iv is.length), (36, iv 0)]) [(0, [iv 0, .v (.slice none 0 0)]), (2, [iv n, .v (.slice none 0 0)])] (by (repeat' first | exact trivial | refine ⟨?_, ?_⟩ | rfl)) rfl ⟨⟨by simp [hset'], by (first | omega | (dsimp only; omega))⟩, ⟨by simp [hset', splice], by (first | omega | (dsimp only; omega))⟩, True.intro⟩ (Nat.le_refl _)) ?_
  refine vc_ent (ent_nil_cell 2 1 3 (c := [iv n, .v (.slice none 0 0)]) (by simp [hls, hset']) rfl) ?_
  refine v_loop (T := Nat × Nat × Nat) (fun x => ⟨[(2, .pt [tsl ts, iv n, iv g, iv c] 0), (4, .lp 0 0), (8, isl is), (9, .lp 2 0), (34, isl is), (35, iv is.length), (36, iv x.1)], hls [(0, [iv 0, .v (.slice none 0 0)]), (2, [iv n, .ls x.2.1 0 3 (plTo ts g is x.1).length]), (x.2.1, plc (plTo ts g is x.1))], x.2.2, (71, 0, 0)⟩) (fun x => x.1 ≤ N ∧ 3 ≤ x.2.1 ∧ x.2.1 < x.2.2) (fun x => N - x.1) (0, 3, 4) ⟨by (first | omega | (dsimp only; omega)), by (first | omega | (dsimp only; omega)), by (first | omega | (dsimp only; omega))⟩ ?_ ?_
  · exact ent_rows _ (by (repeat' first | exact trivial | refine ⟨?_, ?_⟩ | rfl)) rfl ⟨⟨by simp [hset', hls], by (first | omega | (dsimp only; omega))⟩, ⟨by simp [hset', hls, plTo], by (first | omega | (dsimp only; omega))⟩, ⟨by simp [hset', hls, plTo, plc], by (first | omega | (dsimp only; omega))⟩, True.intro⟩ (Nat.le_refl _)
  rintro ⟨k, r, Y⟩ ⟨hk, hr, hrY⟩
  dsimp only at hk hr hrY ⊢
  have q0 : (r == 0) = false := beq_ne (by omega)
  have q1 : (0 == r) = false := beq_ne (by omega)
  have q2 : (r == 2) = false := beq_ne (by omega)
  have q3 : (2 == r) = false := beq_ne (by omega)
  have y0 : (Y == 0) = false := beq_ne (by omega)
  have y1 : (0 == Y) = false := beq_ne (by omega)
  have y2 : (Y == 2) = false := beq_ne (by omega)
  have y3 : (2 == Y) = false := beq_ne (by omega)
  have y4 : (Y == r) = false := beq_ne (by omega)
  have y5 : (r == Y) = false := beq_ne (by omega)
  have r0 : (0 == 2) = false := rfl
  have r1 : (2 == 0) = false := rfl
  have hpl := plTo_len ts g is k
  have hpc := plc_len (plTo ts g is k)
  have hpo := plc_one (plTo ts g is k)
  have htk : List.take ((plTo ts g is k).length * 3) (plc (plTo ts g is k)) = plc (plTo ts g is k) := List.take_of_length_le (by omega)
  by_cases hk2 : k < N
  · have hd : decide ((k : Int) < is.length) = true := decide_eq_true (by omega)
    have hik := hi k hk2
    obtain ⟨i, hix⟩ : ∃ i : Nat, cIx ts l k = i := ⟨(cIx ts l k).toNat, by omega⟩
    have hgk : gi is (k : Nat) = (i : Nat) := by rw [← his, gi_cIxs hk2, hix]
    have hiT : i < ts.length := by omega
    have t1 : (tcs ts)[((i : Nat) : Int).toNat * 3 + 1]? = some (iv (gt7 ts i).lag) := tcs_1 hiT
    have hsu : plTo ts g is (k + 1) = bif pnew is k then plTo ts g is k ++ [pcOf ts g is k] else plTo ts g is k := rfl
    have hkg : 0 ≤ (k : Int) * g ∧ (k : Int) * g ≤ 200 := by
      have h1 := hT.gG
      have h2 := hT.KG
      have h3 := hT.nb
      have h4 : (k : Int) * G ≤ (N : Int) * G := Int.mul_le_mul_of_nonneg_right (by omega) (by omega)
      have h5 : 0 ≤ (k : Int) * G := Int.mul_nonneg (by omega) (by omega)
      rw [h1]
      omega
    have hpo2 : pcOf ts g is k = ⟨(k : Int) * g, (i : Nat), (gt7 ts i).lag⟩ := by unfold pcOf; rw [hgk, Int.toNat_natCast]
    repeat' first
     | refine v_seq ?_ | refine v_block ?_ | refine v_ret ?_ | refine v_skip ?_ | (refine v_exit ?_; repeat' first | refine xB_eq ?_ | refine xB_ne rfl ?_)
     | ((first | refine rgA fun K hK => ?_ | refine rgB rfl fun K hK => ?_ | refine rgC rfl fun K hK => ?_); simp only [go_sem,simprocAttr,hd,hls,hgk,t1,hset_at,hset_hset,hpc,hpo,htk,q0,q1,q2,q3,y0,y1,y2,y3,y4,y5,r0,r1])
     | (simp (disch := first | omega | rfl | (simp only [lnn]; omega)) only [spl])
     | (refine hK _ ?_; clear hK K)
     | (refine gdB_intro (fun h => ?_) (fun h => ?_) <;> simp only [go_sem,simprocAttr,h,hd,hls,hgk,t1,hset_at,hset_hset,hpc,hpo,htk,q0,q1,q2,q3,y0,y1,y2,y3,y4,y5,r0,r1] <;> (have h' := h; try simp only [bl] at h'))
     | (refine v_cond rfl (fun h => ?_) (fun h => ?_) <;> first | (exact Bool.noConfusion h) | (have h' := h; try simp only [bl] at h'))
     | (refine r_ret ?_; simp only [resL, resA, Tryz.f35, lk_cons', lk_nil', Nat.reduceBEq]; first | exact ⟨rfl, Sb.nil _, rfl⟩ | refine ⟨rfl, sbt ?_, rfl⟩ | refine ⟨rfl, Sb.of_eq ?_, rfl⟩)
     | (refine And.intro (by first | exact True.intro | omega | rfl | exact Nat.le_of_ble_eq_true rfl | (simp only [lnn]; omega) | exact List.forall_mem_nil _ | (refine List.forall_mem_cons.2 ⟨⟨_, rfl⟩, ?_⟩; repeat' first | exact List.forall_mem_nil _ | refine List.forall_mem_cons.2 ⟨⟨_, rfl⟩, ?_⟩)) ?_)
     | (simp only [go_sem,simprocAttr,t1,tsl,htk,hpc,hpo,hset_at,hset_hset,q0,q1,q2,q3,y0,y1,y2,y3,y4,y5,r0,r1])
     | (simp only [htk])
     | fail
    all_goals
      first
      | (have hpn : pnew is k = true := by
          have : (k : Int) = 0 ∨ gi is ((k : Int) - 1) ≠ gi is (k : Nat) := by omega
          unfold pnew
          rcases this with h1 | h1
          · rw [show (k == 0) = true by simp; omega]; rfl
          · rw [show (gi is ((k : Int) - 1) != gi is (k : Nat)) = true by simpa using h1, Bool.or_true]
         refine ⟨(k + 1, Y, Y + 1), ?_, ⟨by (first | omega | (dsimp only; omega)), by (first | omega | (dsimp only; omega)), by (first | omega | (dsimp only; omega))⟩, by (first | omega | (dsimp only; omega))⟩
         dsimp only
         rw [hsu, hpn, cond_true, hpo2, plc_snoc, List.length_append, List.length_singleton]
         exact ent_rows _ (by (repeat' first | exact trivial | refine ⟨?_, ?_⟩ | rfl)) rfl ⟨⟨by simp [hset', q0, y0, y1, r0, r1], by (first | omega | (dsimp only; omega))⟩, ⟨by simp [hset', q2, y2, y3, r0, r1, splice], by (first | omega | (dsimp only; omega))⟩, ⟨by simp [hset', htk, y2, y3, splice], by (first | omega | (dsimp only; omega))⟩, True.intro⟩ (Nat.le_refl _))
      | (have hpn : pnew is k = false := by
          have : (k : Int) ≠ 0 ∧ gi is ((k : Int) - 1) = gi is (k : Nat) := by omega
          unfold pnew
          rw [this.2, show (k == 0) = false from beq_ne (by omega)]
          simp
         refine ⟨(k + 1, r, Y), ?_, ⟨by (first | omega | (dsimp only; omega)), by (first | omega | (dsimp only; omega)), by (first | omega | (dsimp only; omega))⟩, by (first | omega | (dsimp only; omega))⟩
         dsimp only
         rw [hsu, hpn, cond_false]
         exact ent_rows _ (by (repeat' first | exact trivial | refine ⟨?_, ?_⟩ | rfl)) rfl ⟨⟨by simp [hset', q0, q1, r0, r1], by (first | omega | (dsimp only; omega))⟩, ⟨by simp [hset', q2, q3, r0, r1], by (first | omega | (dsimp only; omega))⟩, ⟨by simp [hset', q0, q1, q2, q3], by (first | omega | (dsimp only; omega))⟩, True.intro⟩ (Nat.le_refl _))
  · obtain rfl : k = N := by omega
    have hd : decide ((k : Int) < is.length) = false := decide_eq_false (by omega)
    repeat' first
     | refine v_seq ?_ | refine v_block ?_ | refine v_ret ?_ | refine v_skip ?_ | (refine v_exit ?_; repeat' first | refine xB_eq ?_ | refine xB_ne rfl ?_)
     | ((first | refine rgA fun K hK => ?_ | refine rgB rfl fun K hK => ?_ | refine rgC rfl fun K hK => ?_); simp only [go_sem,simprocAttr,hd,hls,r0,r1,q0,q1,q2,q3,hset_at,hset_hset])
     | (simp (disch := first | omega | rfl | (simp only [lnn]; omega)) only [spl])
     | (refine hK _ ?_; clear hK K)
     | (refine gdB_intro (fun h => ?_) (fun h => ?_) <;> simp only [go_sem,simprocAttr,h,hd,hls,r0,r1,q0,q1,q2,q3,hset_at,hset_hset] <;> (have h' := h; try simp only [bl] at h'))
     | (refine v_cond rfl (fun h => ?_) (fun h => ?_) <;> first | (exact Bool.noConfusion h) | (have h' := h; try simp only [bl] at h'))
     | (refine r_ret ?_; simp only [resL, resA, Tryz.f35, lk_cons', lk_nil', Nat.reduceBEq]; first | exact ⟨rfl, Sb.nil _, rfl⟩ | refine ⟨rfl, sbt ?_, rfl⟩ | refine ⟨rfl, Sb.of_eq ?_, rfl⟩)
     | (refine And.intro (by first | exact True.intro | omega | rfl | exact Nat.le_of_ble_eq_true rfl | (simp only [lnn]; omega) | exact List.forall_mem_nil _ | (refine List.forall_mem_cons.2 ⟨⟨_, rfl⟩, ?_⟩; repeat' first | exact List.forall_mem_nil _ | refine List.forall_mem_cons.2 ⟨⟨_, rfl⟩, ?_⟩)) ?_)
     | fail
    refine r_freezeH r (c := plc (plTo ts g is k)) (by simp [hset', q0, q1, q2, q3]) (plc_plain _) (r_ret ?_)
    have hle : 0 + (plTo ts g is k).length * 3 ≤ (plc (plTo ts g is k)).length := by omega
    have fzD : AV.fz r (plc (plTo ts g is k)) (.ls r 0 3 (plTo ts g is k).length) = plS (plTo ts g is k) := by
      simp only [AV.fz, beq_self_eq_true, cond_true, if_pos hle, List.drop_zero, htk]
    have fzL : AV.fz r (plc (plTo ts g is k)) (.lp 0 0) = .lp 0 0 := by simp only [AV.fz, q0, cond_false]
    have sp2 : ∀ a b x y : AV, splice [a, b] 0 [x, y] = [x, y] := fun _ _ _ _ => rfl
    simp only [resL, resA, Tryz.f35, go_sem,simprocAttr,fzF,hfz,hset_at,hset_hset,q0,q1,q2,q3,r0,r1,sp2,fzD,fzL,fz_sl,fz_other]
    exact Sb.refl _
end Go.Proofs.YtabmhfmglhjmjaaGreatDoor
set_option maxRecDepth 100000
set_option maxHeartbeats 4000000
set_option linter.unusedSimpArgs false
set_option linter.unusedVariables false
set_option linter.unusedSectionVars false
namespace Go.Proofs.YtabmhfmglhjmjaaGreatDoor
open Go.Ab Go.RowKit
variable [Dr]
def gpT (l : List Pc) (i : Nat) : Pc := l.getD i ⟨0, 0, 0⟩
theorem plc_atT {l : List Pc} {i : Nat} (h : i < l.length) : ((plc l).drop (i * 3)).take 3 = [iv (gpT l i).fr, iv (gpT l i).so, iv (gpT l i).lag] := by
  unfold plc
  rw [fm_at (c := pcA) (k := 3) (fun _ => rfl) h]
  simp [gpT, h, pcA]
end Go.Proofs.YtabmhfmglhjmjaaGreatDoor
namespace Go.Proofs
open Go.Shelf
def Tryz.layItoa_ren : Go.Shelf.Ren := ⟨fun | 171 => 129 | 243 => 156 | 246 => 198 | 283 => 223 | 284 => 224 | 285 => 225 | 286 => 226 | 129 => 173 | 317 => 249 | 318 => 250 | 319 => 251 | 320 => 252 | 337 => 260 | 338 => 261 | n => n, fun | 3 => 3 | 9 => 9 | 2 => 2 | 4 => 4 | 171 => 265 | 0 => 0 | 53 => 228 | 37 => 197 | 5 => 5 | 173 => 267 | 212 => 287 | 51 => 226 | 20 => 20 | 213 => 288 | 46 => 194 | 232 => 302 | 233 => 303 | n => n, fun | 17 => 3 | 18 => 6 | 19 => 7 | n => n⟩
theorem Tryz.layItoa : Go.Proofs.Lays.n171 Tryz.prog Tryz.layItoa_ren := {
  mixed := by kernel_rfl
  f129 := Tryz.func173.trans (congrArg some (by kernel_rfl))
  f171 := Tryz.func129.trans (congrArg some (by kernel_rfl))
  f243 := Tryz.func156.trans (congrArg some (by kernel_rfl))
  f246 := Tryz.func198.trans (congrArg some (by kernel_rfl))
  f283 := Tryz.func223.trans (congrArg some (by kernel_rfl))
  f284 := Tryz.func224.trans (congrArg some (by kernel_rfl))
  f285 := Tryz.func225.trans (congrArg some (by kernel_rfl))
  f286 := Tryz.func226.trans (congrArg some (by kernel_rfl))
  f317 := Tryz.func249.trans (congrArg some (by kernel_rfl))
  f318 := Tryz.func250.trans (congrArg some (by kernel_rfl))
  f319 := Tryz.func251.trans (congrArg some (by kernel_rfl))
  f320 := Tryz.func252.trans (congrArg some (by kernel_rfl))
  f337 := Tryz.func260.trans (congrArg some (by kernel_rfl))
  f338 := Tryz.func261.trans (congrArg some (by kernel_rfl))
  t0 := Tryz.underlying0
  a0 := Tryz.isAgg0
  z0 := Tryz.sizeOf0
  v0 := Tryz.zeroValue0
  t2 := Tryz.underlying2
  a2 := Tryz.isAgg2
  z2 := Tryz.sizeOf2
  v2 := Tryz.zeroValue2
  t3 := Tryz.underlying3
  a3 := Tryz.isAgg3
  z3 := Tryz.sizeOf3
  v3 := Tryz.zeroValue3
  t4 := Tryz.underlying4
  a4 := Tryz.isAgg4
  z4 := Tryz.sizeOf4
  v4 := Tryz.zeroValue4
  t5 := Tryz.underlying5
  a5 := Tryz.isAgg5
  z5 := Tryz.sizeOf5
  v5 := Tryz.zeroValue5
  t9 := Tryz.underlying9
  a9 := Tryz.isAgg9
  z9 := Tryz.sizeOf9
  v9 := Tryz.zeroValue9
  t20 := Tryz.underlying20
  a20 := Tryz.isAgg20
  z20 := Tryz.sizeOf20
  v20 := Tryz.zeroValue20
  t37 := Tryz.underlying197
  a37 := Tryz.isAgg197
  z37 := Tryz.sizeOf197
  v37 := Tryz.zeroValue197
  t46 := Tryz.underlying194
  a46 := Tryz.isAgg194
  z46 := Tryz.sizeOf194
  v46 := Tryz.zeroValue194
  t51 := Tryz.underlying226
  a51 := Tryz.isAgg226
  z51 := Tryz.sizeOf226
  v51 := Tryz.zeroValue226
  t53 := Tryz.underlying228
  a53 := Tryz.isAgg228
  z53 := Tryz.sizeOf228
  v53 := Tryz.zeroValue228
  t171 := Tryz.underlying265
  a171 := Tryz.isAgg265
  z171 := Tryz.sizeOf265
  v171 := Tryz.zeroValue265
  t173 := Tryz.underlying267
  a173 := Tryz.isAgg267
  z173 := Tryz.sizeOf267
  v173 := Tryz.zeroValue267
  t212 := Tryz.underlying287
  a212 := Tryz.isAgg287
  z212 := Tryz.sizeOf287
  v212 := Tryz.zeroValue287
  t213 := Tryz.underlying288
  a213 := Tryz.isAgg288
  z213 := Tryz.sizeOf288
  t232 := Tryz.underlying302
  a232 := Tryz.isAgg302
  z232 := Tryz.sizeOf302
  v232 := Tryz.zeroValue302
  t233 := Tryz.underlying303
  a233 := Tryz.isAgg303
  z233 := Tryz.sizeOf303
  v233 := Tryz.zeroValue303
  g17 := by kernel_rfl
  g18 := by kernel_rfl
  g19 := by kernel_rfl }
def Tryz.layJoin_ren : Go.Shelf.Ren := ⟨fun | 156 => 130 | 165 => 157 | 166 => 158 | 169 => 159 | 240 => 199 | 241 => 200 | 276 => 227 | 277 => 228 | n => n, fun | 31 => 37 | 9 => 9 | 3 => 3 | 4 => 4 | 0 => 0 | 20 => 20 | 72 => 212 | 76 => 205 | 70 => 210 | 37 => 197 | 75 => 204 | 127 => 243 | 164 => 269 | 5 => 5 | 80 => 214 | n => n, fun | n => n⟩
theorem Tryz.layJoin : Go.Proofs.Lays.n156 Tryz.prog Tryz.layJoin_ren := {
  mixed := by kernel_rfl
  f156 := Tryz.func130.trans (congrArg some (by kernel_rfl))
  f165 := Tryz.func157.trans (congrArg some (by kernel_rfl))
  f166 := Tryz.func158.trans (congrArg some (by kernel_rfl))
  f169 := Tryz.func159.trans (congrArg some (by kernel_rfl))
  f240 := Tryz.func199.trans (congrArg some (by kernel_rfl))
  f241 := Tryz.func200.trans (congrArg some (by kernel_rfl))
  f276 := Tryz.func227.trans (congrArg some (by kernel_rfl))
  f277 := Tryz.func228.trans (congrArg some (by kernel_rfl))
  t0 := Tryz.underlying0
  a0 := Tryz.isAgg0
  z0 := Tryz.sizeOf0
  v0 := Tryz.zeroValue0
  t3 := Tryz.underlying3
  a3 := Tryz.isAgg3
  z3 := Tryz.sizeOf3
  v3 := Tryz.zeroValue3
  t4 := Tryz.underlying4
  a4 := Tryz.isAgg4
  z4 := Tryz.sizeOf4
  v4 := Tryz.zeroValue4
  t9 := Tryz.underlying9
  a9 := Tryz.isAgg9
  z9 := Tryz.sizeOf9
  v9 := Tryz.zeroValue9
  t20 := Tryz.underlying20
  a20 := Tryz.isAgg20
  z20 := Tryz.sizeOf20
  v20 := Tryz.zeroValue20
  t31 := Tryz.underlying37
  a31 := Tryz.isAgg37
  z31 := Tryz.sizeOf37
  v31 := Tryz.zeroValue37
  t37 := Tryz.underlying197
  a37 := Tryz.isAgg197
  z37 := Tryz.sizeOf197
  v37 := Tryz.zeroValue197
  t70 := Tryz.underlying210
  a70 := Tryz.isAgg210
  z70 := Tryz.sizeOf210
  v70 := Tryz.zeroValue210
  t72 := Tryz.underlying212
  a72 := Tryz.isAgg212
  z72 := Tryz.sizeOf212
  v72 := Tryz.zeroValue212
  t75 := Tryz.underlying204
  a75 := Tryz.isAgg204
  z75 := Tryz.sizeOf204
  v75 := Tryz.zeroValue204
  t76 := Tryz.underlying205
  a76 := Tryz.isAgg205
  z76 := Tryz.sizeOf205
  v76 := Tryz.zeroValue205
  t127 := Tryz.underlying243
  a127 := Tryz.isAgg243
  z127 := Tryz.sizeOf243
  v127 := Tryz.zeroValue243
  t164 := Tryz.underlying269
  a164 := Tryz.isAgg269
  z164 := Tryz.sizeOf269
  v164 := Tryz.zeroValue269 }
end Go.Proofs
set_option maxRecDepth 100000
set_option maxHeartbeats 4000000
set_option linter.unusedSimpArgs false
set_option linter.unusedVariables false
set_option linter.unusedSectionVars false
namespace Go.Proofs.YtabmhfmglhjmjaaGreatDoor
open Go.Ab Go.RowKit Go.Shelf Go.Proofs
theorem bldX : Builder.Extra Tryz.prog Tryz.layJoin_ren where
  sizeBuilder := by kernel_rfl
  liesBuilder := by kernel_rfl
  t5 := Tryz.underlying5
  a5 := Tryz.isAgg5
  z5 := Tryz.sizeOf5
  v5 := Tryz.zeroValue5
  infoByte := by kernel_rfl
  cellsByte := by kernel_rfl
  sizeByte := by kernel_rfl
  neB5 := by decide
class Lo [Dr] : Prop where
  h : Dr.loose
variable [Dr] [Lo]
def dec7 (i : Nat) : ByteArray := ⟨(Lib.decDigits i).toArray⟩
theorem c_Itoa (i : Nat) (hi : i < 100) : Pure Tryz.prog 129 [iv i] (AV.v (.string (dec7 i))) := by
  refine ⟨Tryz.call129, fun O w vs hr hO => ?_⟩
  obtain ⟨u, hu, h0⟩ := hr.2 0 _ rfl
  obtain rfl := h0.v_inv
  have hvs : vs = #[.int .i64 i] := by
    refine Array.ext_getElem? fun j => ?_
    match j with
    | 0 => simpa using hu
    | j + 1 =>
      have : vs.size = 1 := hr.1
      rw [Array.getElem?_eq_none (by omega), Array.getElem?_eq_none (by simp)]
  subst hvs
  exact (Any.strconv_Itoa_small Tryz.layItoa i hi w).mono fun e w' ⟨he, hw⟩ => by
    subst hw
    exact ⟨_, he, Gr.refl _, Rp.v _⟩
def join7 (xs : List ByteArray) (sep : ByteArray) : ByteArray := ⟨(Lib.join (xs.map (·.data.toList)) sep.data.toList).toArray⟩
theorem c_Join (xs : List ByteArray) (sep : ByteArray) (h1 : 1 ≤ xs.length) (hl : xs.length ≤ 1000) (hs : (Lib.join (xs.map (·.data.toList)) sep.data.toList).length ≤ 140737488355328) :
    Pure Tryz.prog 130 [ssl xs, AV.v (.string sep)] (AV.v (.string (join7 xs sep))) := by
  refine ⟨Tryz.call130, fun O w vs hr hO => ?_⟩
  obtain ⟨u, hu, h0⟩ := hr.2 0 _ rfl
  obtain ⟨u1, hu1, h2⟩ := hr.2 1 _ rfl
  obtain rfl := h2.v_inv
  have hsl := strs_len xs
  have hat : ∀ (j : Nat) (x : ByteArray), xs[j]? = some x → (strs xs)[j]? = some (.v (.string x)) := fun j x hx => by
    unfold strs
    rw [List.getElem?_map, hx]; rfl
  have fin : ∀ (b off cap : Nat), u = .slice (some ⟨b, off, none⟩) xs.length cap → xs.length ≤ cap → b < w.heap.size → (∀ (j : Nat) (x : ByteArray), xs[j]? = some x → w.cell? ⟨b, off + j, none⟩ = some (.string x)) →
      Calls Tryz.prog 130 vs w (fun e w' => ∃ u, e = .returned u ∧ Gr w w' ∧ Rp O w' (.v (.string (join7 xs sep))) u) := by
    intro b off cap hu2 hcap hb hc
    have hvs : vs = #[.slice (some ⟨b, off, none⟩) xs.length cap, .string sep] := by
      refine Array.ext_getElem? fun j => ?_
      match j with
      | 0 => rw [hu, hu2]; rfl
      | 1 => rw [hu1]; rfl
      | j + 2 =>
        have : vs.size = 2 := hr.1
        rw [Array.getElem?_eq_none (by omega), Array.getElem?_eq_none (by simp)]
    subst hvs
    exact (Any.strings_Join Tryz.layJoin bldX b off cap xs sep w hc hb (by omega) hcap hs).mono fun e w' ⟨he, hw⟩ => ⟨_, he, Gr.of_below hw (.inl Lo.h), Rp.v _⟩
  have h0' : Rp O w (.sl 1 xs.length (strs xs)) u := h0
  clear h0 hu hu1
  generalize hN : xs.length = N at h0' h1 fin
  generalize hC : strs xs = C at h0' hat
  cases h0' with
  | nla sz a => omega
  | sl sz n cs b off cap f hO hb hn hl hc hr0 =>
    refine fin b off cap rfl hn hb fun j x hx => ?_
    have h3 := hc j _ (hat j x hx)
    have h4 := hr0 j _ (hat j x hx)
    have h5 : f j = .string x := Rp.v_inv h4
    rw [h3, h5]
instance drL : Dr := ⟨True, fun _ _ => True, fun _ h => h, fun _ _ h => h⟩
instance loL : @Lo drL := @Lo.mk drL True.intro
end Go.Proofs.YtabmhfmglhjmjaaGreatDoor
set_option maxRecDepth 100000
set_option maxHeartbeats 4000000
set_option linter.unusedSimpArgs false
set_option linter.unusedVariables false
set_option linter.unusedSectionVars false
namespace Go.Proofs.YtabmhfmglhjmjaaGreatDoor
open Go.Ab Go.RowKit Go.Proofs
theorem lt_heap {w : World} {b : Nat} {o : Obj} (h : w.heap[b]? = some o) : b < w.heap.size := (Array.getElem?_eq_some_iff.1 h).1
def VarIs (P : Program) (O : Nat → Prop) (w : World) (name : String) (cs : Array Value) : Prop :=
  ∃ (g : Nat) (e : TypeId) (fz : Nat × Nat), P.globalNamed name = some g ∧ ¬ O g ∧ w.heap[g]? = some (Obj.cells cs e fz)
theorem VarIs.keep {P : Program} {O O' : Nat → Prop} {w w' : World} {name : String} {cs : Array Value} (t : Tr O w O' w') (h : VarIs P O w name cs) : VarIs P O' w' name cs := by
  obtain ⟨g, e, fz, h1, h2, h3⟩ := h
  obtain ⟨k1, k2⟩ := t.keep g (lt_heap h3) h2
  exact ⟨g, e, fz, h1, k2, k1.trans h3⟩
theorem VarIs.dead {P : Program} {O : Nat → Prop} {w : World} {name : String} {cs : Array Value} {D : Nat} {x : Option (List Deferred)} (o : Obj) (hD : w.heap[D]? = some (Obj.deferred x)) (h : VarIs P O w name cs) : VarIs P O (w.putObj D o) name cs := by
  obtain ⟨g, e, fz, h1, h2, h3⟩ := h
  refine ⟨g, e, fz, h1, h2, ?_⟩
  rw [World.putObj_heap_other (fun e => by subst e; rw [hD] at h3; cases h3)]
  exact h3
theorem VarIs.var {P : Program} {O : Nat → Prop} {w : World} {name : String} {cs : Array Value} (h : VarIs P O w name cs) : w.var? P name = some cs := by
  obtain ⟨g, e, fz, h1, h2, h3⟩ := h
  unfold World.var?
  rw [h1, Option.bind_some, h3]
def invV (O : Nat → Prop) (w : World) : Prop :=
  (∃ tp p, VarIs Tryz.prog O w "strconv.ErrSyntax" #[.iface tp p]) ∧ (∃ tp p, VarIs Tryz.prog O w "strconv.ErrRange" #[.iface tp p]) ∧
  VarIs Tryz.prog O w "internal/strconv.uint64pow10" (Lib.pow10Tab.map fun z => Value.int .u64 z).toArray ∧ ∃ m, VarIs Tryz.prog O w "internal/bytealg.MaxLen" #[.int .i64 m]
abbrev drV : Dr where
  loose := True
  inv := invV
  keep := fun t h => ⟨h.1.imp fun tp h => h.imp fun p h => h.keep t, h.2.1.imp fun tp h => h.imp fun p h => h.keep t, h.2.2.1.keep t, h.2.2.2.imp fun m h => h.keep t⟩
  dead := fun o hD h => ⟨h.1.imp fun tp h => h.imp fun p h => h.dead o hD, h.2.1.imp fun tp h => h.imp fun p h => h.dead o hD, h.2.2.1.dead o hD, h.2.2.2.imp fun m h => h.dead o hD⟩
abbrev loV : @Lo drV := @Lo.mk drV True.intro
end Go.Proofs.YtabmhfmglhjmjaaGreatDoor
namespace Go.Proofs
open Go.Shelf
def Tryz.layItoaM_ren : Go.Shelf.Ren := ⟨fun | 171 => 129 | 243 => 156 | 246 => 198 | 283 => 223 | 284 => 224 | 285 => 225 | 286 => 226 | 129 => 173 | 317 => 249 | 318 => 250 | 319 => 251 | 320 => 252 | 337 => 260 | 338 => 261 | n => n, fun | 3 => 3 | 9 => 9 | 2 => 2 | 4 => 4 | 171 => 265 | 0 => 0 | 53 => 228 | 37 => 197 | 5 => 5 | 173 => 267 | 212 => 287 | 51 => 226 | 20 => 20 | 213 => 288 | 46 => 194 | 232 => 302 | 233 => 303 | n => n, fun | 17 => 3 | 18 => 6 | 19 => 7 | n => n⟩
theorem Tryz.layItoaM : Go.Proofs.LaysM.n171 Tryz.prog Tryz.layItoaM_ren := {
  mixed := by kernel_rfl
  f129 := Tryz.func173.trans (congrArg some (by kernel_rfl))
  f171 := Tryz.func129.trans (congrArg some (by kernel_rfl))
  f243 := Tryz.func156.trans (congrArg some (by kernel_rfl))
  f246 := Tryz.func198.trans (congrArg some (by kernel_rfl))
  f283 := Tryz.func223.trans (congrArg some (by kernel_rfl))
  f284 := Tryz.func224.trans (congrArg some (by kernel_rfl))
  f285 := Tryz.func225.trans (congrArg some (by kernel_rfl))
  f286 := Tryz.func226.trans (congrArg some (by kernel_rfl))
  f317 := Tryz.func249.trans (congrArg some (by kernel_rfl))
  f318 := Tryz.func250.trans (congrArg some (by kernel_rfl))
  f319 := Tryz.func251.trans (congrArg some (by kernel_rfl))
  f320 := Tryz.func252.trans (congrArg some (by kernel_rfl))
  f337 := Tryz.func260.trans (congrArg some (by kernel_rfl))
  f338 := Tryz.func261.trans (congrArg some (by kernel_rfl))
  t0 := Tryz.underlying0
  a0 := Tryz.isAgg0
  z0 := Tryz.sizeOf0
  v0 := Tryz.zeroValue0
  t2 := Tryz.underlying2
  a2 := Tryz.isAgg2
  z2 := Tryz.sizeOf2
  v2 := Tryz.zeroValue2
  t3 := Tryz.underlying3
  a3 := Tryz.isAgg3
  z3 := Tryz.sizeOf3
  v3 := Tryz.zeroValue3
  t4 := Tryz.underlying4
  a4 := Tryz.isAgg4
  z4 := Tryz.sizeOf4
  v4 := Tryz.zeroValue4
  t5 := Tryz.underlying5
  a5 := Tryz.isAgg5
  z5 := Tryz.sizeOf5
  v5 := Tryz.zeroValue5
  t9 := Tryz.underlying9
  a9 := Tryz.isAgg9
  z9 := Tryz.sizeOf9
  v9 := Tryz.zeroValue9
  t20 := Tryz.underlying20
  a20 := Tryz.isAgg20
  z20 := Tryz.sizeOf20
  v20 := Tryz.zeroValue20
  t37 := Tryz.underlying197
  a37 := Tryz.isAgg197
  z37 := Tryz.sizeOf197
  v37 := Tryz.zeroValue197
  t46 := Tryz.underlying194
  a46 := Tryz.isAgg194
  z46 := Tryz.sizeOf194
  v46 := Tryz.zeroValue194
  t51 := Tryz.underlying226
  a51 := Tryz.isAgg226
  z51 := Tryz.sizeOf226
  v51 := Tryz.zeroValue226
  t53 := Tryz.underlying228
  a53 := Tryz.isAgg228
  z53 := Tryz.sizeOf228
  v53 := Tryz.zeroValue228
  t171 := Tryz.underlying265
  a171 := Tryz.isAgg265
  z171 := Tryz.sizeOf265
  v171 := Tryz.zeroValue265
  t173 := Tryz.underlying267
  a173 := Tryz.isAgg267
  z173 := Tryz.sizeOf267
  v173 := Tryz.zeroValue267
  t212 := Tryz.underlying287
  a212 := Tryz.isAgg287
  z212 := Tryz.sizeOf287
  v212 := Tryz.zeroValue287
  t213 := Tryz.underlying288
  a213 := Tryz.isAgg288
  z213 := Tryz.sizeOf288
  t232 := Tryz.underlying302
  a232 := Tryz.isAgg302
  z232 := Tryz.sizeOf302
  v232 := Tryz.zeroValue302
  t233 := Tryz.underlying303
  a233 := Tryz.isAgg303
  z233 := Tryz.sizeOf303
  v233 := Tryz.zeroValue303
  g17 := by kernel_rfl
  g18 := by kernel_rfl
  g19 := by kernel_rfl
  i0 := by kernel_rfl
  i2 := by kernel_rfl
  i3 := by kernel_rfl
  i4 := by kernel_rfl
  i5 := by kernel_rfl
  i9 := by kernel_rfl
  i20 := by kernel_rfl
  i37 := by kernel_rfl
  i46 := by kernel_rfl
  i51 := by kernel_rfl
  i53 := by kernel_rfl
  i171 := by kernel_rfl
  i173 := by kernel_rfl
  i212 := by kernel_rfl
  i232 := by kernel_rfl
  i233 := by kernel_rfl
  m17 := by kernel_rfl
  m18 := by kernel_rfl
  m19 := by kernel_rfl }
def Tryz.layAtoi_ren : Go.Shelf.Ren := ⟨fun | 172 => 154 | 244 => 195 | 245 => 196 | 247 => 217 | 279 => 218 | 280 => 219 | 281 => 220 | 282 => 221 | 287 => 246 | 316 => 247 | 171 => 129 | 205 => 248 | 321 => 258 | 322 => 259 | 243 => 156 | 246 => 198 | 283 => 223 | 284 => 224 | 285 => 225 | 286 => 226 | 129 => 173 | 317 => 249 | 318 => 250 | 319 => 251 | 320 => 252 | 337 => 260 | 338 => 261 | n => n, fun | 9 => 9 | 3 => 3 | 75 => 204 | 76 => 205 | 4 => 4 | 5 => 5 | 167 => 258 | 37 => 197 | 0 => 0 | 85 => 259 | 2 => 2 | 168 => 261 | 53 => 228 | 175 => 280 | 46 => 194 | 210 => 284 | 127 => 243 | 145 => 300 | 143 => 298 | 21 => 21 | 171 => 265 | 173 => 267 | 212 => 287 | 51 => 226 | 20 => 20 | 213 => 288 | 232 => 302 | 233 => 303 | 80 => 214 | n => n, fun | 15 => 1 | 16 => 2 | 17 => 3 | 18 => 6 | 19 => 7 | n => n⟩
theorem Tryz.layAtoi : Go.Proofs.LaysC.n172 Tryz.prog Tryz.layAtoi_ren := {
  mixed := by kernel_rfl
  f129 := Tryz.func173.trans (congrArg some (by kernel_rfl))
  f171 := Tryz.func129.trans (congrArg some (by kernel_rfl))
  f172 := Tryz.func154.trans (congrArg some (by kernel_rfl))
  f205 := Tryz.func248.trans (congrArg some (by kernel_rfl))
  f243 := Tryz.func156.trans (congrArg some (by kernel_rfl))
  f244 := Tryz.func195.trans (congrArg some (by kernel_rfl))
  f245 := Tryz.func196.trans (congrArg some (by kernel_rfl))
  f246 := Tryz.func198.trans (congrArg some (by kernel_rfl))
  f247 := Tryz.func217.trans (congrArg some (by kernel_rfl))
  f279 := Tryz.func218.trans (congrArg some (by kernel_rfl))
  f280 := Tryz.func219.trans (congrArg some (by kernel_rfl))
  f281 := Tryz.func220.trans (congrArg some (by kernel_rfl))
  f282 := Tryz.func221.trans (congrArg some (by kernel_rfl))
  f283 := Tryz.func223.trans (congrArg some (by kernel_rfl))
  f284 := Tryz.func224.trans (congrArg some (by kernel_rfl))
  f285 := Tryz.func225.trans (congrArg some (by kernel_rfl))
  f286 := Tryz.func226.trans (congrArg some (by kernel_rfl))
  f287 := Tryz.func246.trans (congrArg some (by kernel_rfl))
  f316 := Tryz.func247.trans (congrArg some (by kernel_rfl))
  f317 := Tryz.func249.trans (congrArg some (by kernel_rfl))
  f318 := Tryz.func250.trans (congrArg some (by kernel_rfl))
  f319 := Tryz.func251.trans (congrArg some (by kernel_rfl))
  f320 := Tryz.func252.trans (congrArg some (by kernel_rfl))
  f321 := Tryz.func258.trans (congrArg some (by kernel_rfl))
  f322 := Tryz.func259.trans (congrArg some (by kernel_rfl))
  f337 := Tryz.func260.trans (congrArg some (by kernel_rfl))
  f338 := Tryz.func261.trans (congrArg some (by kernel_rfl))
  t0 := Tryz.underlying0
  a0 := Tryz.isAgg0
  z0 := Tryz.sizeOf0
  v0 := Tryz.zeroValue0
  t2 := Tryz.underlying2
  a2 := Tryz.isAgg2
  z2 := Tryz.sizeOf2
  v2 := Tryz.zeroValue2
  t3 := Tryz.underlying3
  a3 := Tryz.isAgg3
  z3 := Tryz.sizeOf3
  v3 := Tryz.zeroValue3
  t4 := Tryz.underlying4
  a4 := Tryz.isAgg4
  z4 := Tryz.sizeOf4
  v4 := Tryz.zeroValue4
  t5 := Tryz.underlying5
  a5 := Tryz.isAgg5
  z5 := Tryz.sizeOf5
  v5 := Tryz.zeroValue5
  t9 := Tryz.underlying9
  a9 := Tryz.isAgg9
  z9 := Tryz.sizeOf9
  v9 := Tryz.zeroValue9
  t20 := Tryz.underlying20
  a20 := Tryz.isAgg20
  z20 := Tryz.sizeOf20
  v20 := Tryz.zeroValue20
  t21 := Tryz.underlying21
  a21 := Tryz.isAgg21
  z21 := Tryz.sizeOf21
  v21 := Tryz.zeroValue21
  t37 := Tryz.underlying197
  a37 := Tryz.isAgg197
  z37 := Tryz.sizeOf197
  v37 := Tryz.zeroValue197
  t46 := Tryz.underlying194
  a46 := Tryz.isAgg194
  z46 := Tryz.sizeOf194
  v46 := Tryz.zeroValue194
  t51 := Tryz.underlying226
  a51 := Tryz.isAgg226
  z51 := Tryz.sizeOf226
  v51 := Tryz.zeroValue226
  t53 := Tryz.underlying228
  a53 := Tryz.isAgg228
  z53 := Tryz.sizeOf228
  v53 := Tryz.zeroValue228
  t75 := Tryz.underlying204
  a75 := Tryz.isAgg204
  z75 := Tryz.sizeOf204
  v75 := Tryz.zeroValue204
  t76 := Tryz.underlying205
  a76 := Tryz.isAgg205
  z76 := Tryz.sizeOf205
  v76 := Tryz.zeroValue205
  t85 := Tryz.underlying259
  a85 := Tryz.isAgg259
  z85 := Tryz.sizeOf259
  v85 := Tryz.zeroValue259
  t127 := Tryz.underlying243
  a127 := Tryz.isAgg243
  z127 := Tryz.sizeOf243
  v127 := Tryz.zeroValue243
  t143 := Tryz.underlying298
  a143 := Tryz.isAgg298
  z143 := Tryz.sizeOf298
  v143 := Tryz.zeroValue298
  t145 := Tryz.underlying300
  a145 := Tryz.isAgg300
  z145 := Tryz.sizeOf300
  v145 := Tryz.zeroValue300
  t167 := Tryz.underlying258
  a167 := Tryz.isAgg258
  z167 := Tryz.sizeOf258
  v167 := Tryz.zeroValue258
  t168 := Tryz.underlying261
  a168 := Tryz.isAgg261
  z168 := Tryz.sizeOf261
  v168 := Tryz.zeroValue261
  t171 := Tryz.underlying265
  a171 := Tryz.isAgg265
  z171 := Tryz.sizeOf265
  v171 := Tryz.zeroValue265
  t173 := Tryz.underlying267
  a173 := Tryz.isAgg267
  z173 := Tryz.sizeOf267
  v173 := Tryz.zeroValue267
  t175 := Tryz.underlying280
  a175 := Tryz.isAgg280
  z175 := Tryz.sizeOf280
  v175 := Tryz.zeroValue280
  t210 := Tryz.underlying284
  a210 := Tryz.isAgg284
  z210 := Tryz.sizeOf284
  v210 := Tryz.zeroValue284
  t212 := Tryz.underlying287
  a212 := Tryz.isAgg287
  z212 := Tryz.sizeOf287
  v212 := Tryz.zeroValue287
  t213 := Tryz.underlying288
  a213 := Tryz.isAgg288
  z213 := Tryz.sizeOf288
  t232 := Tryz.underlying302
  a232 := Tryz.isAgg302
  z232 := Tryz.sizeOf302
  v232 := Tryz.zeroValue302
  t233 := Tryz.underlying303
  a233 := Tryz.isAgg303
  z233 := Tryz.sizeOf303
  v233 := Tryz.zeroValue303
  g15 := by kernel_rfl
  g16 := by kernel_rfl
  g17 := by kernel_rfl
  g18 := by kernel_rfl
  g19 := by kernel_rfl
  t80 := Tryz.underlying214
  a80 := Tryz.isAgg214
  z80 := Tryz.sizeOf214
  v80 := Tryz.zeroValue214
  i0 := by kernel_rfl
  i2 := by kernel_rfl
  i3 := by kernel_rfl
  i4 := by kernel_rfl
  i5 := by kernel_rfl
  i9 := by kernel_rfl
  i20 := by kernel_rfl
  i21 := by kernel_rfl
  i37 := by kernel_rfl
  i46 := by kernel_rfl
  i51 := by kernel_rfl
  i53 := by kernel_rfl
  i75 := by kernel_rfl
  i76 := by kernel_rfl
  i80 := by kernel_rfl
  i85 := by kernel_rfl
  i127 := by kernel_rfl
  i143 := by kernel_rfl
  i145 := by kernel_rfl
  i167 := by kernel_rfl
  i168 := by kernel_rfl
  i171 := by kernel_rfl
  i173 := by kernel_rfl
  i175 := by kernel_rfl
  i210 := by kernel_rfl
  i212 := by kernel_rfl
  i232 := by kernel_rfl
  i233 := by kernel_rfl
  m15 := by kernel_rfl
  m16 := by kernel_rfl
  m17 := by kernel_rfl
  m18 := by kernel_rfl
  m19 := by kernel_rfl
  c0 := by kernel_rfl
  c2 := by kernel_rfl
  c3 := by kernel_rfl
  c4 := by kernel_rfl
  c5 := by kernel_rfl
  c9 := by kernel_rfl
  c20 := by kernel_rfl
  c21 := by kernel_rfl
  c37 := by kernel_rfl
  c46 := by kernel_rfl
  c51 := by kernel_rfl
  c53 := by kernel_rfl
  c75 := by kernel_rfl
  c76 := by kernel_rfl
  c80 := by kernel_rfl
  c85 := by kernel_rfl
  c127 := by kernel_rfl
  c143 := by kernel_rfl
  c145 := by kernel_rfl
  c167 := by kernel_rfl
  c168 := by kernel_rfl
  c171 := by kernel_rfl
  c173 := by kernel_rfl
  c175 := by kernel_rfl
  c210 := by kernel_rfl
  c212 := by kernel_rfl
  c213 := by kernel_rfl
  c232 := by kernel_rfl
  c233 := by kernel_rfl }
def Tryz.laySplit_ren : Go.Shelf.Ren := ⟨fun | 146 => 125 | 221 => 153 | 268 => 192 | 138 => 193 | 143 => 194 | 195 => 213 | 197 => 214 | 218 => 215 | 219 => 216 | 260 => 241 | 217 => 242 | 225 => 243 | 224 => 244 | 267 => 245 | 266 => 256 | 314 => 257 | n => n, fun | 9 => 9 | 31 => 37 | 3 => 3 | 4 => 4 | 0 => 0 | 105 => 255 | 21 => 21 | 5 => 5 | 46 => 194 | 119 => 291 | 139 => 294 | 138 => 293 | 146 => 295 | 51 => 226 | n => n, fun | 1 => 0 | 3 => 4 | 4 => 5 | n => n⟩
theorem Tryz.laySplit : Go.Proofs.LaysM.n146 Tryz.prog Tryz.laySplit_ren := {
  mixed := by kernel_rfl
  f138 := Tryz.func193.trans (congrArg some (by kernel_rfl))
  f143 := Tryz.func194.trans (congrArg some (by kernel_rfl))
  f146 := Tryz.func125.trans (congrArg some (by kernel_rfl))
  f195 := Tryz.func213.trans (congrArg some (by kernel_rfl))
  f197 := Tryz.func214.trans (congrArg some (by kernel_rfl))
  f217 := Tryz.func242.trans (congrArg some (by kernel_rfl))
  f218 := Tryz.func215.trans (congrArg some (by kernel_rfl))
  f219 := Tryz.func216.trans (congrArg some (by kernel_rfl))
  f221 := Tryz.func153.trans (congrArg some (by kernel_rfl))
  f224 := Tryz.func244.trans (congrArg some (by kernel_rfl))
  f225 := Tryz.func243.trans (congrArg some (by kernel_rfl))
  f260 := Tryz.func241.trans (congrArg some (by kernel_rfl))
  f266 := Tryz.func256.trans (congrArg some (by kernel_rfl))
  f267 := Tryz.func245.trans (congrArg some (by kernel_rfl))
  f268 := Tryz.func192.trans (congrArg some (by kernel_rfl))
  f314 := Tryz.func257.trans (congrArg some (by kernel_rfl))
  t0 := Tryz.underlying0
  a0 := Tryz.isAgg0
  z0 := Tryz.sizeOf0
  v0 := Tryz.zeroValue0
  t3 := Tryz.underlying3
  a3 := Tryz.isAgg3
  z3 := Tryz.sizeOf3
  v3 := Tryz.zeroValue3
  t4 := Tryz.underlying4
  a4 := Tryz.isAgg4
  z4 := Tryz.sizeOf4
  v4 := Tryz.zeroValue4
  t5 := Tryz.underlying5
  a5 := Tryz.isAgg5
  z5 := Tryz.sizeOf5
  v5 := Tryz.zeroValue5
  t9 := Tryz.underlying9
  a9 := Tryz.isAgg9
  z9 := Tryz.sizeOf9
  v9 := Tryz.zeroValue9
  t21 := Tryz.underlying21
  a21 := Tryz.isAgg21
  z21 := Tryz.sizeOf21
  v21 := Tryz.zeroValue21
  t31 := Tryz.underlying37
  a31 := Tryz.isAgg37
  z31 := Tryz.sizeOf37
  v31 := Tryz.zeroValue37
  t46 := Tryz.underlying194
  a46 := Tryz.isAgg194
  z46 := Tryz.sizeOf194
  v46 := Tryz.zeroValue194
  t51 := Tryz.underlying226
  a51 := Tryz.isAgg226
  z51 := Tryz.sizeOf226
  v51 := Tryz.zeroValue226
  t105 := Tryz.underlying255
  a105 := Tryz.isAgg255
  z105 := Tryz.sizeOf255
  v105 := Tryz.zeroValue255
  t119 := Tryz.underlying291
  a119 := Tryz.isAgg291
  z119 := Tryz.sizeOf291
  t138 := Tryz.underlying293
  a138 := Tryz.isAgg293
  z138 := Tryz.sizeOf293
  v138 := Tryz.zeroValue293
  t139 := Tryz.underlying294
  a139 := Tryz.isAgg294
  z139 := Tryz.sizeOf294
  v139 := Tryz.zeroValue294
  t146 := Tryz.underlying295
  a146 := Tryz.isAgg295
  z146 := Tryz.sizeOf295
  v146 := Tryz.zeroValue295
  g1 := by kernel_rfl
  g3 := by kernel_rfl
  g4 := by kernel_rfl
  i0 := by kernel_rfl
  i3 := by kernel_rfl
  i4 := by kernel_rfl
  i5 := by kernel_rfl
  i9 := by kernel_rfl
  i21 := by kernel_rfl
  i31 := by kernel_rfl
  i46 := by kernel_rfl
  i51 := by kernel_rfl
  i105 := by kernel_rfl
  i138 := by kernel_rfl
  i139 := by kernel_rfl
  i146 := by kernel_rfl
  m1 := by kernel_rfl
  s1_3 := fun w h => Go.Proofs.cell_of_shapedOpen_int (zero := #[.int .i64 0]) (t := 3) h (of_decide_eq_true (by kernel_rfl)) (by kernel_rfl) rfl (by kernel_rfl) (by kernel_rfl) Tryz.underlying3
  m3 := by kernel_rfl
  m4 := by kernel_rfl }
def Tryz.layTrim_ren : Go.Shelf.Ren := ⟨fun | 101 => 155 | 208 => 197 | 206 => 222 | n => n, fun | 9 => 9 | 4 => 4 | 3 => 3 | n => n, fun | n => n⟩
theorem Tryz.layTrim : Go.Proofs.Lays.n101 Tryz.prog Tryz.layTrim_ren := {
  mixed := by kernel_rfl
  f101 := Tryz.func155.trans (congrArg some (by kernel_rfl))
  f206 := Tryz.func222.trans (congrArg some (by kernel_rfl))
  f208 := Tryz.func197.trans (congrArg some (by kernel_rfl))
  t3 := Tryz.underlying3
  a3 := Tryz.isAgg3
  z3 := Tryz.sizeOf3
  v3 := Tryz.zeroValue3
  t4 := Tryz.underlying4
  a4 := Tryz.isAgg4
  z4 := Tryz.sizeOf4
  v4 := Tryz.zeroValue4
  t9 := Tryz.underlying9
  a9 := Tryz.isAgg9
  z9 := Tryz.sizeOf9
  v9 := Tryz.zeroValue9 }
end Go.Proofs
set_option maxRecDepth 100000
set_option maxHeartbeats 4000000
set_option linter.unusedSimpArgs false
set_option linter.unusedVariables false
set_option linter.unusedSectionVars false
namespace Go.Proofs.YtabmhfmglhjmjaaGreatDoor
open Go.Ab Go.RowKit Go.Shelf Go.Proofs
attribute [local instance] drV loV
theorem one_arg {O : Nat → Prop} {w : World} {x : Value} {vs : Array Value} (hr : Rps O w [.v x] vs) : vs = #[x] := by
  obtain ⟨u, hu, h0⟩ := hr.2 0 _ rfl
  obtain rfl := h0.v_inv
  refine Array.ext_getElem? fun j => ?_
  match j with
  | 0 => simpa using hu
  | j + 1 =>
    have : vs.size = 1 := hr.1
    rw [Array.getElem?_eq_none (by omega), Array.getElem?_eq_none (by simp)]
theorem two_args {O : Nat → Prop} {w : World} {x y : Value} {vs : Array Value} (hr : Rps O w [.v x, .v y] vs) : vs = #[x, y] := by
  obtain ⟨u, hu, h0⟩ := hr.2 0 _ rfl
  obtain ⟨u1, hu1, h1⟩ := hr.2 1 _ rfl
  obtain rfl := h0.v_inv
  obtain rfl := h1.v_inv
  refine Array.ext_getElem? fun j => ?_
  match j with
  | 0 => simpa using hu
  | 1 => simpa using hu1
  | j + 2 =>
    have : vs.size = 2 := hr.1
    rw [Array.getElem?_eq_none (by omega), Array.getElem?_eq_none (by simp)]
def itoaS (n : Int) : ByteArray := ⟨(Lib.itoa n).toArray⟩
theorem c_ItoaV (n : Int) (h : I64 n) : Pure Tryz.prog 129 [iv n] (AV.v (.string (itoaS n))) := by
  refine ⟨Tryz.call129, fun O w vs hr hO => ?_⟩
  obtain rfl := one_arg hr
  refine (Any.strconv_Itoa Tryz.layItoaM n h.1 h.2 w hO.2.2.2.1.var).mono fun e w' ⟨he, k, os, hw⟩ => ?_
  subst hw
  exact ⟨_, he, Gr.of_below (Go.Lib.below_grow _ _ (Nat.le_refl _) _ _) (.inl Lo.h), Rp.v _⟩
theorem c_TrimPrefix (s p : ByteArray) : Pure Tryz.prog 155 [AV.v (.string s), AV.v (.string p)] (AV.v (.string ⟨(Lib.trimPrefix s.data.toList p.data.toList).toArray⟩)) := by
  refine ⟨Tryz.call155, fun O w vs hr hO => ?_⟩
  obtain rfl := two_args hr
  refine (Any.strings_TrimPrefix Tryz.layTrim s p w).mono fun e w' ⟨he, hw⟩ => ?_
  subst hw
  exact ⟨_, he, Gr.refl _, Rp.v _⟩
theorem c_Split (s sep : ByteArray) (hs : s.size < 4294967281) (h1 : 1 ≤ sep.size) :
    Pure Tryz.prog 125 [AV.v (.string s), AV.v (.string sep)] (ssl (Lib.splitB sep 0 (Lib.countB s sep) s)) := by
  refine ⟨Tryz.call125, fun O w vs hr hO => ?_⟩
  obtain rfl := two_args hr
  obtain ⟨m, hm⟩ := hO.2.2.2.2
  have hm1 : w.cell? ⟨Tryz.laySplit_ren.g 1, 0, none⟩ = some (.int .i64 m) := by
    have := World.var?_cell Tryz.laySplit.m1 hm.var 0
    simpa using this
  refine (Any.strings_Split { Tryz.laySplit with } Tryz.laySplit.i9 s sep m w hs hm1 h1).mono fun e w' ⟨he, hw⟩ => ?_
  subst hw
  have hlen := Lib.splitB_all sep h1 0 _ s rfl
  generalize Lib.splitB sep 0 (Lib.countB s sep) s = xs at hlen he ⊢
  rw [← hlen] at he
  refine ⟨_, he, gr_alloc _ _, Rp.mk_sl (fun h => by have := hO.1 _ h; omega) (by show w.heap.size < (w.heap.push _).size; rw [Array.size_push]; omega) (Nat.le_refl _) (by rw [strs_len]; omega) fun i c hc => ?_⟩
  rw [Nat.zero_add, cell_alloc]
  unfold strs at hc
  rw [List.getElem?_map] at hc
  cases hx : xs[i]? with
  | none => rw [hx] at hc; cases hc
  | some y =>
    rw [hx] at hc
    simp only [Option.map_some, Option.some.injEq] at hc
    subst hc
    exact ⟨.string y, by simp [hx], Rp.v _⟩
abbrev errA : AV := .ic (Tryz.layAtoi_ren.t 168) (.pt [] 0)
theorem err_tu {O : Nat → Prop} {w : World} {n : Int} {N : Nat} (hO : ¬ O N) (hN : N < w.heap.size) :
    Rp O w (.tu [iv n, errA]) (.tuple #[.int .i64 n, .iface (Tryz.layAtoi_ren.t 168) (.pointer (some ⟨N, 0, none⟩))]) := by
  refine .tu _ _ (fun i => if i = 0 then .int .i64 n else .iface (Tryz.layAtoi_ren.t 168) (.pointer (some ⟨N, 0, none⟩))) rfl ?_ ?_
  · intro i c hc
    match i with
    | 0 => rfl
    | 1 => rfl
    | i + 2 => simp at hc
  · intro i c hc
    match i with
    | 0 => simp only [List.getElem?_cons_zero, Option.some.injEq] at hc; subst hc; exact Rp.v _
    | 1 =>
      simp only [List.getElem?_cons_succ, List.getElem?_cons_zero, Option.some.injEq] at hc
      subst hc
      exact .ic _ _ _ (.pt [] 0 N 0 (fun _ => .nilIface) hO hN (fun i c h => by simp at h) (fun i c h => by simp at h))
    | i + 2 => simp at hc
theorem ok_tu {O : Nat → Prop} {w : World} {n : Int} : Rp O w (.tu [iv n, .v .nilIface]) (.tuple #[.int .i64 n, .nilIface]) := by
  refine .tu _ _ (fun i => if i = 0 then .int .i64 n else .nilIface) rfl ?_ ?_
  · intro i c hc
    match i with
    | 0 => rfl
    | 1 => rfl
    | i + 2 => simp at hc
  · intro i c hc
    match i with
    | 0 => simp only [List.getElem?_cons_zero, Option.some.injEq] at hc; subst hc; exact Rp.v _
    | 1 => simp only [List.getElem?_cons_succ, List.getElem?_cons_zero, Option.some.injEq] at hc; subst hc; exact Rp.v _
    | i + 2 => simp at hc
theorem c_AtoiOk (s : ByteArray) (hs : s.size ≤ 281474976710656) (v : Int) (h : Lib.atoiAll s.data.toList = .ok v) :
    Pure Tryz.prog 154 [AV.v (.string s)] (.tu [iv v, .v .nilIface]) := by
  refine ⟨Tryz.call154, fun O w vs hr hO => ?_⟩
  obtain rfl := one_arg hr
  refine (Any.strconv_Atoi_ok Tryz.layAtoi s (by omega) v h w).mono fun e w' ⟨he, hw⟩ => ?_
  refine ⟨_, he, ?_, ok_tu⟩
  rcases hw with rfl | ⟨t, rfl⟩
  · exact Gr.refl _
  · exact Gr.of_below ⟨rfl, rfl, rfl, by rw [Lib.bytesWorld_size]; omega, fun k hk => Lib.bytesWorld_at_old w _ t k hk⟩ (.inl Lo.h)
theorem c_AtoiSyntax (s : ByteArray) (hs : s.size ≤ 281474976710656) (h : ∀ v, Lib.atoiAll s.data.toList ≠ .ok v) (h2 : Lib.atoiAll s.data.toList ≠ .range) :
    Pure Tryz.prog 154 [AV.v (.string s)] (.tu [iv 0, errA]) := by
  refine ⟨Tryz.call154, fun O w vs hr hO => ?_⟩
  obtain rfl := one_arg hr
  obtain ⟨tp, p, hv⟩ := hO.2.1
  cases hq : Lib.atoiAll s.data.toList
  · exact absurd hq (h _)
  rotate_left
  · exact absurd hq h2
  refine (Any.strconv_Atoi_syntax_var Tryz.layAtoi s hs hq tp p w hv.var).mono fun e w' ⟨N, he, h1, h2, h3⟩ => ?_
  exact ⟨_, he, Gr.of_below h3 (.inl Lo.h), err_tu (fun h => by have := hO.1 _ h; omega) (lt_heap h2)⟩
theorem c_AtoiRange (s : ByteArray) (hs : s.size ≤ 281474976710656) (h : Lib.atoiAll s.data.toList = .range) :
    Pure Tryz.prog 154 [AV.v (.string s)] (.tu [iv (Lib.atoiSat s.data.toList), errA]) := by
  refine ⟨Tryz.call154, fun O w vs hr hO => ?_⟩
  obtain rfl := one_arg hr
  obtain ⟨tp, p, hv⟩ := hO.2.2.1
  refine (Any.strconv_Atoi_range_var Tryz.layAtoi s hs h tp p w hv.var).mono fun e w' ⟨N, he, h1, h2, h3⟩ => ?_
  exact ⟨_, he, Gr.of_below h3 (.inl Lo.h), err_tu (fun h => by have := hO.1 _ h; omega) (lt_heap h2)⟩
end Go.Proofs.YtabmhfmglhjmjaaGreatDoor

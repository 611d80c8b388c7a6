/- Parts of the proof, put together by a program. -/
import Derived.Shelf.Strings.OnBuilder
import Derived.Shelf.Strconv.Itoa3
import Derived.Test.YtabmhfmglhjmjaaGreatDoorProg
import Derived.KernelRfl
import Derived.Test.YtabmhfmglhjmjaaGreatDoorUai
import Derived.Test.YtabmhfmglhjmjaaGreatDoorUaj
set_option maxRecDepth 100000
set_option maxHeartbeats 4000000
set_option linter.unusedSimpArgs false
set_option linter.unusedVariables false
set_option linter.unusedSectionVars false
namespace Go.Proofs.YtabmhfmglhjmjaaGreatDoor
open Go.Ab Go.RowKit
variable [Dr]
def strs (l : List ByteArray) : List AV := l.map fun s => .v (.string s)
abbrev ssl (l : List ByteArray) : AV := .sl 1 l.length (strs l)
theorem strs_len (l : List ByteArray) : (strs l).length = l.length := by simp [strs]
theorem strs_plain : ∀ l : List ByteArray, plainL (strs l) = true
  | [] => rfl
  | s :: l => by
    have := strs_plain l
    unfold strs at *
    simp only [List.map_cons, plainL, AV.plain, this, Bool.and_self]
theorem strs_one : ∀ l : List ByteArray, oneL (strs l) = true
  | [] => rfl
  | s :: l => by
    have := strs_one l
    unfold oneL strs at *
    rw [List.map_cons, List.all_cons, this]
    rfl
theorem strs_snoc (l : List ByteArray) (s : ByteArray) : strs l ++ [.v (.string s)] = strs (l ++ [s]) := by simp [strs]
theorem X11.sbt {x a b : AV} {n : Nat} (h : a = b) : Sb (.tu [.v (.slice none 0 0), x, a]) (.tu [.sl n 0 [], x, b]) := Sb.tuL ⟨Sb.nil _, Sb.refl _, Sb.of_eq h, True.intro⟩
namespace X11
end X11
theorem cmpS_lt (a b : ByteArray) : decide (cmpS a b < 0) = nmLt a b := by
  unfold cmpS
  cases nmLt a b
  · cases nmLt b a <;> rfl
  · rfl
theorem nm_swo {γ : Type} (nm : γ → ByteArray) : Sort.SWO (Proofs.ltOf fun x y => cmpS (nm x) (nm y)) := by
  have key : ∀ x y : γ, Proofs.ltOf (fun x y => cmpS (nm x) (nm y)) x y = nmLt (nm x) (nm y) := fun x y => cmpS_lt _ _
  refine ⟨fun x => ?_, fun x y z h k => ?_, fun x y z h k => ?_⟩
  · rw [key]; exact nmLt_irrefl _
  · rw [key] at *; exact nmLt_trans h k
  · rw [key] at *; exact nmLt_ntrans h k
def natI (l : List Nat) : List Int := l.map fun (i : Nat) => (i : Int)
theorem natI_len (l : List Nat) : (natI l).length = l.length := by simp [natI]
theorem natI_succ (n : Nat) : natI (List.range n) ++ [(n : Int)] = natI (List.range (n + 1)) := by simp [natI, List.range_succ]
theorem gi_natI {l : List Nat} {p : Nat} (h : p < l.length) : gi (natI l) (p : Nat) = (l[p] : Nat) := by simp [gi, natI, h]
theorem m_sortNm (ts : List Tf) (n g c : Int) (G m : Nat) (h1 : 1 ≤ ts.length) (h6 : ts.length ≤ 6) (H : Hp) (nx r : Nat) (hr : H r = some (ints (natI (List.range ts.length)))) (K : AV → Hp → Nat → Prop)
    (hK : ∀ bn : List Nat, bn.Perm (List.range ts.length) → (∀ (p q : Nat) (i j : Nat), p < q → bn[p]? = some i → bn[q]? = some j → nmLt (gt7 ts j).nm (gt7 ts i).nm = false) → K (.tu []) (hset H r (some (ints (natI bn)))) nx) :
    CallM Tryz.prog 97 H nx [.ls r 0 1 ts.length, .fn (.func 98) [] [.pt [tsl ts, iv n, iv g, iv c, .sl 1 m (devC ts G m)] 0]] K := by
  let γ := { j : Nat // j < ts.length }
  haveI : Inhabited γ := ⟨⟨0, h1⟩⟩
  let d : List γ := (List.range ts.length).attachWith (fun j => j < ts.length) fun j hj => List.mem_range.1 hj
  have hdm : d.map (·.1) = List.range ts.length := List.attachWith_map_subtype_val _
  have hdl : d.length = ts.length := by have := congrArg List.length hdm; simpa using this
  have hmm : ∀ l : List γ, (l.map fun z => ((z.1 : Nat) : Int)) = natI (l.map (·.1)) := fun l => by simp [natI]
  have := m_sortI Tryz.sortInt (γ := γ) Tryz.call97 (fun z => ((z.1 : Nat) : Int)) (fun x y => cmpS (gt7 ts x.1).nm (gt7 ts y.1).nm) (nm_swo _) 98 Tryz.call98 [.pt [tsl ts, iv n, iv g, iv c, .sl 1 m (devC ts G m)] 0] (by simp [plainL, AV.plain, tcs_plain, devC_plain]) (fun x y => @c_BC2 drS ts n g c G m x.1 y.1 x.2 y.2) H nx r d
    (by omega) (by omega) (by rw [hr, hmm, hdm]) K (fun ys hp hst => by
      rw [hmm]
      refine hK _ (by rw [← hdm]; exact hp.map _) fun p q i j hpq hi hj => ?_
      rw [List.getElem?_map, Option.map_eq_some_iff] at hi hj
      obtain ⟨x, hx, rfl⟩ := hi
      obtain ⟨y, hy, rfl⟩ := hj
      have := hst p q x y hpq hx hy
      rw [← cmpS_lt]
      exact decide_eq_false (by omega))
  rw [hdl] at this
  exact this
def leftA (dv : Nat → Nat → Int) (c : Int) (K T : Nat) (nm : Nat → ByteArray) : Nat → Int
  | 0 => total7 dv c K T
  | k + 1 => rst dv c K T k (ch7 dv c K T nm k) - dv k (ch7 dv c K T nm k)
def befA (dv : Nat → Nat → Int) (c : Int) (K T : Nat) (nm : Nat → ByteArray) : Nat → Int
  | 0 => -1
  | k + 1 => (ch7 dv c K T nm k : Nat)
def namA (dv : Nat → Nat → Int) (c : Int) (K T : Nat) (nm : Nat → ByteArray) (k : Nat) : List ByteArray := (List.range k).map fun q => nm (ch7 dv c K T nm q)
theorem namA_len (dv : Nat → Nat → Int) (c : Int) (K T : Nat) (nm : Nat → ByteArray) (k : Nat) : (namA dv c K T nm k).length = k := by simp [namA]
theorem namA_succ (dv : Nat → Nat → Int) (c : Int) (K T : Nat) (nm : Nat → ByteArray) (k : Nat) : namA dv c K T nm k ++ [nm (ch7 dv c K T nm k)] = namA dv c K T nm (k + 1) := by simp [namA, List.range_succ]
theorem leftA_eq {dv : Nat → Nat → Int} {c : Int} {K T : Nat} {nm : Nat → ByteArray} {B : Int} (h : Dp dv c K T nm B) {k : Nat} (hk : k < K) : leftA dv c K T nm k = left7 dv c K T nm k := by
  cases k with
  | zero => exact (left7_zero h).symm
  | succ k => exact (left7_succ h hk).symm
theorem pickA {dv : Nat → Nat → Int} {c : Int} {K T : Nat} {nm : Nat → ByteArray} {B : Int} (h : Dp dv c K T nm B) {k : Nat} (hk : k < K) {bn : List Nat} (hbp : bn.Perm (List.range T))
    (hst : ∀ (p q : Nat) (i j : Nat), p < q → bn[p]? = some i → bn[q]? = some j → nmLt (nm j) (nm i) = false) {p j : Nat} (hp : bn[p]? = some j) (hd : dv k j ≠ -1) (hv : val7 dv c K T nm k j = left7 dv c K T nm k)
    (hinv : ∀ (q i : Nat), q < p → bn[q]? = some i → ¬(dv k i ≠ -1 ∧ val7 dv c K T nm k i = left7 dv c K T nm k)) : ch7 dv c K T nm k = j := by
  have hm : ∀ i, i ∈ bn ↔ i < T := fun i => by rw [hbp.mem_iff, List.mem_range]
  refine ch7_unique h hk ((hm j).1 (List.mem_of_getElem? hp)) hd fun i hi hdi => ?_
  obtain ⟨h1, h2, h3⟩ := ch7_ok h hk
  have hle : left7 dv c K T nm k ≤ val7 dv c K T nm k i := by
    unfold left7
    rcases h3 i hi hdi with h4 | ⟨h4, _⟩ <;> omega
  by_cases he : val7 dv c K T nm k i = left7 dv c K T nm k
  · right
    refine ⟨by omega, ?_⟩
    obtain ⟨q, hq⟩ := List.mem_iff_getElem?.1 ((hm i).2 hi)
    rcases Nat.lt_trichotomy q p with hqp | hqp | hqp
    · exact absurd ⟨hdi, he⟩ (hinv q i hqp hq)
    · rw [hqp, hp] at hq
      cases hq
      exact nmLt_irrefl _
    · exact hst p q j i hqp hp hq
  · left; omega
theorem c_BestG (ts : List Tf) (n g c : Int) (N G : Nat) (hT : TkOk ts n g c N G) (hg : ∀ k, k < N → gap7 ts G k = false) (hD : Pure Tryz.prog 93 [tkA ts n g c] (.tu [tkX ts n g c G N, iv 0])) :
    Pure Tryz.prog 23 [tkA ts n g c] (.tu [ssl ((List.range N).map fun k => (gt7 ts (ch7 (dvn ts G) c N ts.length (fun i => (gt7 ts i).nm) k)).nm), iv (total7 (dvn ts G) c N ts.length), iv 0]) := by
  have hdp := tk_dp hT hg
  have h6 := hT.ok.n6
  have hcb := hT.cb
  have hK1 := hT.K1
  have hK20 := hT.K20
  have hdC := devC_len ts G N
  have krest := c_rest ts n g c N G hT hg
  have hbx : ((0 : Int) != 0) = false := rfl
  have htk5 : ∀ a b c d e : AV, List.take 5 [a, b, c, d, e] = [a, b, c, d, e] := fun _ _ _ _ _ => rfl
  unfold tkA tkX at *
  refine p_intro evOk [5, 7, 9, 11, 45] Tryz.func23 rfl Tryz.call23 ?_
  repeat' first
   | refine v_seq ?_ | refine v_block ?_ | refine v_ret ?_ | refine v_skip ?_ | (refine v_exit ?_; repeat' first | refine xB_eq ?_ | refine xB_ne rfl ?_)
   | ((first | refine rgA fun K hK => ?_ | refine rgB rfl fun K hK => ?_ | refine rgC rfl fun K hK => ?_); simp only [go_sem,simprocAttr,hbx,hset_at,hset_hset,spl5,htk5])
   | (simp (disch := first | omega | rfl | (simp only [lnn]; omega)) only [spl])
   | (refine hK _ ?_; clear hK K)
   | (refine gdB_intro (fun h => ?_) (fun h => ?_) <;> simp only [go_sem,simprocAttr,h,hbx,hset_at,hset_hset,spl5,htk5] <;> (have h' := h; try simp only [bl] at h'))
   | (refine v_cond rfl (fun h => ?_) (fun h => ?_) <;> first | (exact Bool.noConfusion h) | (have h' := h; try simp only [bl] at h'))
   | (refine r_ret ?_; simp only [resL, resA, Tryz.f23, lk_cons', lk_nil', Nat.reduceBEq]; first | exact ⟨rfl, Sb.nil _, rfl⟩ | refine ⟨rfl, sbt ?_, rfl⟩ | refine ⟨rfl, Sb.of_eq ?_, rfl⟩)
   | (refine And.intro (by first | exact True.intro | omega | rfl | exact Nat.le_of_ble_eq_true rfl | (simp only [lnn]; omega) | exact List.forall_mem_nil _ | (refine List.forall_mem_cons.2 ⟨⟨_, rfl⟩, ?_⟩; repeat' first | exact List.forall_mem_nil _ | refine List.forall_mem_cons.2 ⟨⟨_, rfl⟩, ?_⟩)) ?_)
   | ((first | refine call_pure' (hD) rfl ?_); simp only [go_sem,simprocAttr,hbx,hset_at,hset_hset,spl5,htk5])
   | fail
  refine call_pure' krest (by simp [plainL, AV.plain, tsl, tcs_plain, devC_plain]) ?_
  simp only [go_sem,simprocAttr,hbx,hset_at,hset_hset,spl5,htk5]
  refine And.intro (by rfl) ?_
  refine hK _ ?_
  clear hK K
  refine vc_ent ((ent_freezeH 0 (c := [tsl ts, iv n, iv g, iv c, .sl 1 N (devC ts G N)]) (by simp [hset_hset, hset_at, hset', spl5]) (by simp [plainL, AV.plain, tsl, tcs_plain, devC_plain])).trans ((ent_freezeH 1 (c := [.sl 1 N (doneR ts c N G N)]) (by simp [hfz, hset_at, AV.fz]) (by simp [plainL, AV.plain, doneR_plain])).trans (ent_rows (fr := [(5, .pt [tsl ts, iv n, iv g, iv c, .sl 1 N (devC ts G N)] 0), (7, .pt [.sl 1 N (doneR ts c N G N)] 0)]) [] ?_ rfl True.intro (Nat.le_refl _)))) ?_
  · simp only [fzF, AV.fz, tsl, isl, iv, cond_false]
    (repeat' first | exact trivial | refine ⟨?_, ?_⟩ | rfl)
  have hR0 : (doneR ts c N G N)[0]? = some (isl (rstRow ts c N G 0)) := by
    have := hK1
    simp only [doneR, List.getElem?_map, List.getElem?_range (show 0 < N by omega), Option.map_some, Nat.sub_self, Nat.add_zero]
  have hrl := rstRow_len ts c N G 0
  have kbest := c_best _ 96 [.pt [.sl 1 N (doneR ts c N G N)] 0] (by simp [plainL, AV.plain, doneR_plain]) (it_first (doneR ts c N G N) (rstRow ts c N G 0) N hK1 hR0 (by rw [hrl]; exact h6))
  have htot : bL (costsTo (rstRow ts c N G 0) (fun k => gi (rstRow ts c N G 0) k) (rstRow ts c N G 0).length) = total7 (dvn ts G) c N ts.length := by
    rw [bL_costs, hrl]
    unfold total7
    refine bestN_congr _ (fun j hj => ?_) (fun j hj _ => ?_)
    · rw [gi_rstRow hj]; rfl
    · rw [gi_rstRow hj]
  rw [htot] at kbest
  repeat' first
   | refine v_seq ?_ | refine v_block ?_ | refine v_ret ?_ | refine v_skip ?_ | (refine v_exit ?_; repeat' first | refine xB_eq ?_ | refine xB_ne rfl ?_)
   | ((first | refine rgA fun K hK => ?_ | refine rgB rfl fun K hK => ?_ | refine rgC rfl fun K hK => ?_); simp only [go_sem,simprocAttr])
   | (simp (disch := first | omega | rfl | (simp only [lnn]; omega)) only [spl])
   | (refine hK _ ?_; clear hK K)
   | (refine gdB_intro (fun h => ?_) (fun h => ?_) <;> simp only [go_sem,simprocAttr,h] <;> (have h' := h; try simp only [bl] at h'))
   | (refine v_cond rfl (fun h => ?_) (fun h => ?_) <;> first | (exact Bool.noConfusion h) | (have h' := h; try simp only [bl] at h'))
   | (refine r_ret ?_; simp only [resL, resA, Tryz.f23, lk_cons', lk_nil', Nat.reduceBEq]; first | exact ⟨rfl, Sb.nil _, rfl⟩ | refine ⟨rfl, sbt ?_, rfl⟩ | refine ⟨rfl, Sb.of_eq ?_, rfl⟩)
   | (refine And.intro (by first | exact True.intro | omega | rfl | exact Nat.le_of_ble_eq_true rfl | (simp only [lnn]; omega) | exact List.forall_mem_nil _ | (refine List.forall_mem_cons.2 ⟨⟨_, rfl⟩, ?_⟩; repeat' first | exact List.forall_mem_nil _ | refine List.forall_mem_cons.2 ⟨⟨_, rfl⟩, ?_⟩)) ?_)
   | ((first | refine call_pure' (kbest) rfl ?_); simp only [go_sem,simprocAttr])
   | fail
  refine v_loop (T := Nat) (fun i => ⟨[(5, .pt [tsl ts, iv n, iv g, iv c, .sl 1 N (devC ts G N)] 0), (7, .pt [.sl 1 N (doneR ts c N G N)] 0), (8, iv (total7 (dvn ts G) c N ts.length)), (9, .ls (2 + i) 0 1 i), (34, iv ts.length), (35, iv i)], hls [(2 + i, ints (natI (List.range i)))], 3 + i, (109, 0, 0)⟩) (fun i => i ≤ ts.length) (fun i => ts.length - i) 0 (by omega) ?_ ?_
  · exact ent_rows [(2 + 0, ints (natI (List.range 0)))] (by (repeat' first | exact trivial | refine ⟨?_, ?_⟩ | rfl)) rfl ⟨⟨by simp [hset', hls, natI, ints], by (first | omega | (dsimp only; omega))⟩, True.intro⟩ (by (first | omega | (dsimp only; omega)))
  intro i hi
  have hnl : (natI (List.range i)).length = i := by simp [natI]
  have hil : (ints (natI (List.range i))).length = i := by rw [ints_length, hnl]
  have htk : List.take i (ints (natI (List.range i))) = ints (natI (List.range i)) := List.take_of_length_le (by omega)
  have e1 : (3 + i == 2 + i) = false := beq_ne (by omega)
  have e2 : (2 + i == 3 + i) = false := beq_ne (by omega)
  by_cases hi2 : i < ts.length
  · have hd : decide ((i : Int) < ts.length) = true := decide_eq_true (by omega)
    repeat' first
     | refine v_seq ?_ | refine v_block ?_ | refine v_ret ?_ | refine v_skip ?_ | (refine v_exit ?_; repeat' first | refine xB_eq ?_ | refine xB_ne rfl ?_)
     | ((first | refine rgA fun K hK => ?_ | refine rgB rfl fun K hK => ?_ | refine rgC rfl fun K hK => ?_); simp only [go_sem,simprocAttr,hd,hls,hset_at,hil,htk,hnl,e1,e2])
     | (simp (disch := first | omega | rfl | (simp only [lnn]; omega)) only [spl])
     | (refine hK _ ?_; clear hK K)
     | (refine gdB_intro (fun h => ?_) (fun h => ?_) <;> simp only [go_sem,simprocAttr,h,hd,hls,hset_at,hil,htk,hnl,e1,e2] <;> (have h' := h; try simp only [bl] at h'))
     | (refine v_cond rfl (fun h => ?_) (fun h => ?_) <;> first | (exact Bool.noConfusion h) | (have h' := h; try simp only [bl] at h'))
     | (refine r_ret ?_; simp only [resL, resA, Tryz.f23, lk_cons', lk_nil', Nat.reduceBEq]; first | exact ⟨rfl, Sb.nil _, rfl⟩ | refine ⟨rfl, sbt ?_, rfl⟩ | refine ⟨rfl, Sb.of_eq ?_, rfl⟩)
     | (refine And.intro (by first | exact True.intro | omega | rfl | exact Nat.le_of_ble_eq_true rfl | (simp only [lnn]; omega) | exact List.forall_mem_nil _ | (refine List.forall_mem_cons.2 ⟨⟨_, rfl⟩, ?_⟩; repeat' first | exact List.forall_mem_nil _ | refine List.forall_mem_cons.2 ⟨⟨_, rfl⟩, ?_⟩)) ?_)
     | (simp only [htk])
     | fail
    refine ⟨i + 1, ?_, by omega, by omega⟩
    have htk2 : List.take i (natI (List.range i)) = natI (List.range i) := List.take_of_length_le (by omega)
    rw [show 2 + (i + 1) = 3 + i by omega, show 3 + (i + 1) = 3 + i + 1 by omega]
    exact ent_rows [(3 + i, ints (natI (List.range (i + 1))))] (by (repeat' first | exact trivial | refine ⟨?_, ?_⟩ | rfl)) rfl ⟨⟨by simp [hset', hls, ← natI_succ, htk2], by (first | omega | (dsimp only; omega))⟩, True.intro⟩ (by (first | omega | (dsimp only; omega)))
  obtain rfl : i = ts.length := by omega
  have hd : decide ((ts.length : Int) < ts.length) = false := decide_eq_false (by omega)
  have hso := m_sortNm ts n g c G N hT.ok.n1 h6 (hls [(2 + ts.length, ints (natI (List.range ts.length)))]) (3 + ts.length) (2 + ts.length) (by simp [hls, hset'])
  repeat' first
   | refine v_seq ?_ | refine v_block ?_ | refine v_ret ?_ | refine v_skip ?_ | (refine v_exit ?_; repeat' first | refine xB_eq ?_ | refine xB_ne rfl ?_)
   | ((first | refine rgA fun K hK => ?_ | refine rgB rfl fun K hK => ?_ | refine rgC rfl fun K hK => ?_); simp only [go_sem,simprocAttr,hd,hls,hset_at,hil,htk,hnl,e1,e2])
   | (simp (disch := first | omega | rfl | (simp only [lnn]; omega)) only [spl])
   | (refine hK _ ?_; clear hK K)
   | (refine gdB_intro (fun h => ?_) (fun h => ?_) <;> simp only [go_sem,simprocAttr,h,hd,hls,hset_at,hil,htk,hnl,e1,e2] <;> (have h' := h; try simp only [bl] at h'))
   | (refine v_cond rfl (fun h => ?_) (fun h => ?_) <;> first | (exact Bool.noConfusion h) | (have h' := h; try simp only [bl] at h'))
   | (refine r_ret ?_; simp only [resL, resA, Tryz.f23, lk_cons', lk_nil', Nat.reduceBEq]; first | exact ⟨rfl, Sb.nil _, rfl⟩ | refine ⟨rfl, sbt ?_, rfl⟩ | refine ⟨rfl, Sb.of_eq ?_, rfl⟩)
   | (refine And.intro (by first | exact True.intro | omega | rfl | exact Nat.le_of_ble_eq_true rfl | (simp only [lnn]; omega) | exact List.forall_mem_nil _ | (refine List.forall_mem_cons.2 ⟨⟨_, rfl⟩, ?_⟩; repeat' first | exact List.forall_mem_nil _ | refine List.forall_mem_cons.2 ⟨⟨_, rfl⟩, ?_⟩)) ?_)
   | (refine hso _ (fun bn hbp hst => ?_); simp only [cmK, go_sem,simprocAttr,hset_at,hset_hset])
   | fail
  have hbl : bn.length = ts.length := by have := hbp.length_eq; simpa using this
  have hbm : ∀ i, i ∈ bn ↔ i < ts.length := fun i => by rw [hbp.mem_iff, List.mem_range]
  have hnbl : (natI bn).length = ts.length := by rw [natI_len, hbl]
  have hst' : ∀ (p q : Nat) (i j : Nat), p < q → bn[p]? = some i → bn[q]? = some j → nmLt ((fun i => (gt7 ts i).nm) j) ((fun i => (gt7 ts i).nm) i) = false := hst
  have hrb := fun k hk i => rst_bound hdp (by decide) (k := k) hk i
  have hKB : (N : Int) * (20000000 + c) ≤ 20 * 21000000 := Int.mul_le_mul (by omega) (by omega) (by omega) (by omega)
  have hdRl := doneR_len ts c N G N
  generalize hnm : (fun i => (gt7 ts i).nm) = nm at *
  refine v_loop (T := Nat × Nat × Nat) (fun x => ⟨[(5, .pt [tsl ts, iv n, iv g, iv c, .sl 1 N (devC ts G N)] 0), (7, .pt [.sl 1 N (doneR ts c N G N)] 0), (8, iv (total7 (dvn ts G) c N ts.length)), (9, isl (natI bn)), (11, .ls x.2.1 0 1 x.1), (12, iv (leftA (dvn ts G) c N ts.length nm x.1)), (13, iv (befA (dvn ts G) c N ts.length nm x.1)), (47, .sl 1 N (doneR ts c N G N)), (48, iv N), (49, iv x.1)], hls [(x.2.1, strs (namA (dvn ts G) c N ts.length nm x.1))], x.2.2, (109, 0, 0)⟩) (fun x => x.1 ≤ N ∧ x.2.1 < x.2.2) (fun x => N - x.1) (0, 3 + ts.length, 4 + ts.length) ⟨by (first | omega | (dsimp only; omega)), by (first | omega | (dsimp only; omega))⟩ ?_ ?_
  · have e3 : (2 + ts.length == 3 + ts.length) = false := beq_ne (by omega)
    have e3' : (3 + ts.length == 2 + ts.length) = false := beq_ne (by omega)
    refine (ent_freezeH (2 + ts.length) (c := ints (natI bn)) (by simp [hls, hset', e3, e3']) (ints_plain _)).trans (ent_rows [(3 + ts.length, strs (namA (dvn ts G) c N ts.length nm 0))] ?_ rfl ⟨⟨?_, by (first | omega | (dsimp only; omega))⟩, True.intro⟩ (by (first | omega | (dsimp only; omega))))
    · have hfz9 : AV.fz (2 + ts.length) (ints (natI bn)) (.ls (2 + ts.length) 0 1 ts.length) = isl (natI bn) := fz_isl (by omega)
      have hfz11 : AV.fz (2 + ts.length) (ints (natI bn)) (.ls (3 + ts.length) 0 1 0) = .ls (3 + ts.length) 0 1 0 := by simp [AV.fz, e3]
      simp only [fzF, hfz9, hfz11]
      simp only [AV.fz, isl, iv, cond_false]
      (repeat' first | exact trivial | refine ⟨?_, ?_⟩ | rfl)
    · simp [hfz, hls, hset', e3, namA, strs]
  rintro ⟨k, r, Y⟩ ⟨hk, hrY⟩
  dsimp only at hk hrY ⊢
  have y2 : (Y == r) = false := beq_ne (by omega)
  have y3 : (r == Y) = false := beq_ne (by omega)
  have hsl : (strs (namA (dvn ts G) c N ts.length nm k)).length = k := by rw [strs_len, namA_len]
  have hso1 := strs_one (namA (dvn ts G) c N ts.length nm k)
  have htk : List.take k (strs (namA (dvn ts G) c N ts.length nm k)) = strs (namA (dvn ts G) c N ts.length nm k) := List.take_of_length_le (by omega)
  by_cases hk2 : k < N
  · have hd : decide ((k : Int) < N) = true := decide_eq_true (by omega)
    have b1 : (doneR ts c N G N)[((k : Nat) : Int).toNat * 1]? = some (isl (rstRow ts c N G k)) := by
      rw [Int.toNat_natCast, Nat.mul_one]
      simp only [doneR, List.getElem?_map, List.getElem?_range hk2, Option.map_some, Nat.sub_self, Nat.zero_add]
    have b1' : (doneR ts c N G N)[((k : Nat) : Int).toNat]? = some (isl (rstRow ts c N G k)) := by rw [Nat.mul_one] at b1; exact b1
    have hl7 := leftA_eq hdp hk2
    have hRl := rstRow_len ts c N G k
    repeat' first
     | refine v_seq ?_ | refine v_block ?_ | refine v_ret ?_ | refine v_skip ?_ | (refine v_exit ?_; repeat' first | refine xB_eq ?_ | refine xB_ne rfl ?_)
     | ((first | refine rgA fun K hK => ?_ | refine rgB rfl fun K hK => ?_ | refine rgC rfl fun K hK => ?_); simp only [go_sem,simprocAttr,hd,hls,hdRl,b1,b1'])
     | (simp (disch := first | omega | rfl | (simp only [lnn]; omega)) only [spl])
     | (refine hK _ ?_; clear hK K)
     | (refine gdB_intro (fun h => ?_) (fun h => ?_) <;> simp only [go_sem,simprocAttr,h,hd,hls,hdRl,b1,b1'] <;> (have h' := h; try simp only [bl] at h'))
     | (refine v_cond rfl (fun h => ?_) (fun h => ?_) <;> first | (exact Bool.noConfusion h) | (have h' := h; try simp only [bl] at h'))
     | (refine r_ret ?_; simp only [resL, resA, Tryz.f23, lk_cons', lk_nil', Nat.reduceBEq]; first | exact ⟨rfl, Sb.nil _, rfl⟩ | refine ⟨rfl, sbt ?_, rfl⟩ | refine ⟨rfl, Sb.of_eq ?_, rfl⟩)
     | (refine And.intro (by first | exact True.intro | omega | rfl | exact Nat.le_of_ble_eq_true rfl | (simp only [lnn]; omega) | exact List.forall_mem_nil _ | (refine List.forall_mem_cons.2 ⟨⟨_, rfl⟩, ?_⟩; repeat' first | exact List.forall_mem_nil _ | refine List.forall_mem_cons.2 ⟨⟨_, rfl⟩, ?_⟩)) ?_)
     | (simp only [go_sem,simprocAttr,hdRl,b1,b1',isl])
     | fail
    refine v_loop (T := Nat) (fun p => ⟨[(5, .pt [tsl ts, iv n, iv g, iv c, .sl 1 N (devC ts G N)] 0), (7, .pt [.sl 1 N (doneR ts c N G N)] 0), (8, iv (total7 (dvn ts G) c N ts.length)), (9, isl (natI bn)), (11, .ls r 0 1 k), (12, iv (leftA (dvn ts G) c N ts.length nm k)), (13, iv (befA (dvn ts G) c N ts.length nm k)), (14, iv k), (15, isl (rstRow ts c N G k)), (47, .sl 1 N (doneR ts c N G N)), (48, iv N), (49, iv k), (54, isl (natI bn)), (55, iv (natI bn).length), (56, iv p)], hls [(r, strs (namA (dvn ts G) c N ts.length nm k))], Y, (109, 0, 0)⟩) (fun p => p ≤ ts.length ∧ ∀ (q i : Nat), q < p → bn[q]? = some i → ¬(dvn ts G k i ≠ -1 ∧ val7 (dvn ts G) c N ts.length nm k i = left7 (dvn ts G) c N ts.length nm k)) (fun p => ts.length - p) 0 ⟨by omega, fun q i hq => absurd hq (by omega)⟩ ?_ ?_
    · exact ent_rows _ (by (repeat' first | exact trivial | refine ⟨?_, ?_⟩ | rfl)) rfl ⟨⟨hset_at _ _ _, by (first | omega | (dsimp only; omega))⟩, True.intro⟩ (Nat.le_refl _)
    rintro p ⟨hp, hinv⟩
    by_cases hp2 : p < ts.length
    · have hd2 : decide ((p : Int) < (natI bn).length) = true := decide_eq_true (by omega)
      obtain ⟨j, hj⟩ : ∃ j, bn[p]? = some j := ⟨bn[p]'(by omega), List.getElem?_eq_getElem _⟩
      have hjT : j < ts.length := (hbm j).1 (List.mem_of_getElem? hj)
      have hgp : gi (natI bn) (p : Nat) = (j : Nat) := by
        rw [gi_natI (by omega)]
        have hj2 := hj
        rw [List.getElem?_eq_getElem (by omega), Option.some.injEq] at hj2
        rw [hj2]
      have hgr : gi (rstRow ts c N G k) (j : Nat) = rst (dvn ts G) c N ts.length k j := gi_rstRow hjT
      have hgd : gi (devRow ts G k) (j : Nat) = dvn ts G k j := gi_devRow hjT
      have hdl := devRow_len ts G k
      have hrb1 := hrb k hk2 j
      have hdr := hdp.rng k j
      have hok := okR_iff hdp hk2 j
      have d1 : (devC ts G N)[((k : Nat) : Int).toNat * 1]? = some (isl (devRow ts G k)) := by rw [Int.toNat_natCast, Nat.mul_one]; exact devC_at (by omega)
      have d1' : (devC ts G N)[((k : Nat) : Int).toNat]? = some (isl (devRow ts G k)) := devC_at (by omega)
      have d0 : (devC ts G N)[0]? = some (isl (devRow ts G 0)) := devC_at (by omega)
      have t1 : (tcs ts)[((j : Nat) : Int).toNat * 3]? = some (.v (.string (gt7 ts j).nm)) := tcs_0 hjT
      rw [hl7]
      generalize hLV : left7 (dvn ts G) c N ts.length nm k = L at *
      have hnj : (gt7 ts j).nm = nm j := congrFun hnm j
      rw [hnj] at t1
      have hstep : ∀ b : Int, val7 (dvn ts G) c N ts.length nm k j = b + rst (dvn ts G) c N ts.length k j → (gi (rstRow ts c N G k) (j : Nat) = -1 ∨ ¬b + gi (rstRow ts c N G k) (j : Nat) = L) →
          ∀ (q i : Nat), q < p + 1 → bn[q]? = some i → ¬(dvn ts G k i ≠ -1 ∧ val7 (dvn ts G) c N ts.length nm k i = L) := by
        rintro b hb hor q i hq hqi ⟨h1, h2⟩
        by_cases hqp : q < p
        · exact hinv q i hqp hqi ⟨h1, h2⟩
        · obtain rfl : q = p := by omega
          rw [hj] at hqi
          cases hqi
          have h3 := hok.2 h1
          unfold okR at h3
          have h4 : rst (dvn ts G) c N ts.length k j ≠ -1 := by simpa using h3
          omega
      have hpick : ∀ b : Int, val7 (dvn ts G) c N ts.length nm k j = b + rst (dvn ts G) c N ts.length k j → ¬gi (rstRow ts c N G k) (j : Nat) = -1 → b + gi (rstRow ts c N G k) (j : Nat) = L →
          leftA (dvn ts G) c N ts.length nm (k + 1) = gi (rstRow ts c N G k) (j : Nat) - dvn ts G k j ∧ befA (dvn ts G) c N ts.length nm (k + 1) = (j : Nat) ∧ namA (dvn ts G) c N ts.length nm k ++ [nm j] = namA (dvn ts G) c N ts.length nm (k + 1) := by
        intro b hb h1 h2
        have h4 : dvn ts G k j ≠ -1 := hok.1 (by unfold okR; rw [← hgr]; simpa using h1)
        have h5 := pickA hdp hk2 hbp hst' hj h4 (by omega) (by rw [hLV]; exact hinv)
        rw [← namA_succ, h5]
        refine ⟨?_, ?_, rfl⟩
        · rw [show leftA (dvn ts G) c N ts.length nm (k + 1) = rst (dvn ts G) c N ts.length k (ch7 (dvn ts G) c N ts.length nm k) - dvn ts G k (ch7 (dvn ts G) c N ts.length nm k) from rfl, h5, hgr]
        · rw [show befA (dvn ts G) c N ts.length nm (k + 1) = (ch7 (dvn ts G) c N ts.length nm k : Nat) from rfl, h5]
      have hcj := fun i => chg_bound hcb.1 i j
      rcases Nat.eq_zero_or_pos k with hk0 | hk0
      · have hbf : befA (dvn ts G) c N ts.length nm k = -1 := by rw [hk0]; rfl
        have hval : val7 (dvn ts G) c N ts.length nm k j = 0 + rst (dvn ts G) c N ts.length k j := by rw [hk0, Int.zero_add]; rfl
        have hbb : ((-1 : Int) != -1) = false := rfl
        rw [hbf]
        clear hbf
        repeat' first
         | refine v_seq ?_ | refine v_block ?_ | refine v_ret ?_ | refine v_skip ?_ | (refine v_exit ?_; repeat' first | refine xB_eq ?_ | refine xB_ne rfl ?_)
         | ((first | refine rgA fun K hK => ?_ | refine rgB rfl fun K hK => ?_ | refine rgC rfl fun K hK => ?_); simp only [go_sem,simprocAttr,hd2,hbb,hls,hgp,hgd,d1,d1',t1,hset_at,hset_hset,hsl,hso1,htk,y2,y3])
         | (simp (disch := first | omega | rfl | (simp only [lnn]; omega)) only [spl])
         | (refine hK _ ?_; clear hK K)
         | (refine gdB_intro (fun h => ?_) (fun h => ?_) <;> simp only [go_sem,simprocAttr,h,hd2,hbb,hls,hgp,hgd,d1,d1',t1,hset_at,hset_hset,hsl,hso1,htk,y2,y3] <;> (have h' := h; try simp only [bl] at h'))
         | (refine v_cond rfl (fun h => ?_) (fun h => ?_) <;> first | (exact Bool.noConfusion h) | (have h' := h; try simp only [bl] at h'))
         | (refine r_ret ?_; simp only [resL, resA, Tryz.f23, lk_cons', lk_nil', Nat.reduceBEq]; first | exact ⟨rfl, Sb.nil _, rfl⟩ | refine ⟨rfl, sbt ?_, rfl⟩ | refine ⟨rfl, Sb.of_eq ?_, rfl⟩)
         | (refine And.intro (by first | exact True.intro | omega | rfl | exact Nat.le_of_ble_eq_true rfl | (simp only [lnn]; omega) | exact List.forall_mem_nil _ | (refine List.forall_mem_cons.2 ⟨⟨_, rfl⟩, ?_⟩; repeat' first | exact List.forall_mem_nil _ | refine List.forall_mem_cons.2 ⟨⟨_, rfl⟩, ?_⟩)) ?_)
         | (simp only [go_sem,simprocAttr,d1,d1',t1,hsl,hso1,htk,isl,tsl,hset_at,hset_hset,y2,y3])
         | (simp only [htk])
         | fail
        · refine ⟨p + 1, ?_, ⟨by omega, hstep _ hval (.inl (by assumption))⟩, by omega⟩
          exact ent_rows _ (by (repeat' first | exact trivial | refine ⟨?_, ?_⟩ | rfl)) rfl ⟨⟨hset_at _ _ _, by (first | omega | (dsimp only; omega))⟩, True.intro⟩ (Nat.le_refl _)
        · refine ⟨p + 1, ?_, ⟨by omega, hstep _ hval (.inr (by assumption))⟩, by omega⟩
          exact ent_rows _ (by (repeat' first | exact trivial | refine ⟨?_, ?_⟩ | rfl)) rfl ⟨⟨hset_at _ _ _, by (first | omega | (dsimp only; omega))⟩, True.intro⟩ (Nat.le_refl _)
        · obtain ⟨p1, p2, p3⟩ := hpick _ hval (by assumption) (by assumption)
          refine ⟨(k + 1, Y, Y + 1), ?_, ⟨by (first | omega | (dsimp only; omega)), by (first | omega | (dsimp only; omega))⟩, by (first | omega | (dsimp only; omega))⟩
          dsimp only
          rw [p1, p2, ← p3, ← strs_snoc]
          refine ent_rows _ (by (repeat' first | exact trivial | refine ⟨?_, ?_⟩ | rfl)) rfl ⟨⟨?_, ?_⟩, True.intro⟩ (Nat.le_refl _)
          · exact hset_at _ _ _
          · (first | omega | (dsimp only; omega))
      · obtain ⟨k', hk'⟩ : ∃ k', k = k' + 1 := ⟨k - 1, by omega⟩
        have hbf : befA (dvn ts G) c N ts.length nm k = (ch7 (dvn ts G) c N ts.length nm k' : Nat) := by rw [hk']; rfl
        have hval : val7 (dvn ts G) c N ts.length nm k j = chg c (ch7 (dvn ts G) c N ts.length nm k') j + rst (dvn ts G) c N ts.length k j := by rw [hk']; rfl
        rw [hbf]
        clear hbf
        generalize ch7 (dvn ts G) c N ts.length nm k' = b at *
        have hbb : (((b : Nat) : Int) != -1) = true := by simp
        have hcb2 := hcj b
        have kch := c_change ts n g c G N b j
        unfold tkX at kch
        repeat' first
         | refine v_seq ?_ | refine v_block ?_ | refine v_ret ?_ | refine v_skip ?_ | (refine v_exit ?_; repeat' first | refine xB_eq ?_ | refine xB_ne rfl ?_)
         | ((first | refine rgA fun K hK => ?_ | refine rgB rfl fun K hK => ?_ | refine rgC rfl fun K hK => ?_); simp only [go_sem,simprocAttr,hd2,hbb,hls,hgp,hgd,d1,d1',t1,hset_at,hset_hset,hsl,hso1,htk,y2,y3])
         | (simp (disch := first | omega | rfl | (simp only [lnn]; omega)) only [spl])
         | (refine hK _ ?_; clear hK K)
         | (refine gdB_intro (fun h => ?_) (fun h => ?_) <;> simp only [go_sem,simprocAttr,h,hd2,hbb,hls,hgp,hgd,d1,d1',t1,hset_at,hset_hset,hsl,hso1,htk,y2,y3] <;> (have h' := h; try simp only [bl] at h'))
         | (refine v_cond rfl (fun h => ?_) (fun h => ?_) <;> first | (exact Bool.noConfusion h) | (have h' := h; try simp only [bl] at h'))
         | (refine r_ret ?_; simp only [resL, resA, Tryz.f23, lk_cons', lk_nil', Nat.reduceBEq]; first | exact ⟨rfl, Sb.nil _, rfl⟩ | refine ⟨rfl, sbt ?_, rfl⟩ | refine ⟨rfl, Sb.of_eq ?_, rfl⟩)
         | (refine And.intro (by first | exact True.intro | omega | rfl | exact Nat.le_of_ble_eq_true rfl | (simp only [lnn]; omega) | exact List.forall_mem_nil _ | (refine List.forall_mem_cons.2 ⟨⟨_, rfl⟩, ?_⟩; repeat' first | exact List.forall_mem_nil _ | refine List.forall_mem_cons.2 ⟨⟨_, rfl⟩, ?_⟩)) ?_)
         | ((first | refine call_pure' (kch) rfl ?_); simp only [go_sem,simprocAttr,hd2,hbb,hls,hgp,hgd,d1,d1',t1,hset_at,hset_hset,hsl,hso1,htk,y2,y3])
         | (simp only [go_sem,simprocAttr,d1,d1',t1,hsl,hso1,htk,isl,tsl,hset_at,hset_hset,y2,y3])
         | (simp only [htk])
         | fail
        · refine ⟨p + 1, ?_, ⟨by omega, hstep _ hval (.inl (by assumption))⟩, by omega⟩
          exact ent_rows _ (by (repeat' first | exact trivial | refine ⟨?_, ?_⟩ | rfl)) rfl ⟨⟨hset_at _ _ _, by (first | omega | (dsimp only; omega))⟩, True.intro⟩ (Nat.le_refl _)
        · refine ⟨p + 1, ?_, ⟨by omega, hstep _ hval (.inr (by assumption))⟩, by omega⟩
          exact ent_rows _ (by (repeat' first | exact trivial | refine ⟨?_, ?_⟩ | rfl)) rfl ⟨⟨hset_at _ _ _, by (first | omega | (dsimp only; omega))⟩, True.intro⟩ (Nat.le_refl _)
        · obtain ⟨p1, p2, p3⟩ := hpick _ hval (by assumption) (by assumption)
          refine ⟨(k + 1, Y, Y + 1), ?_, ⟨by (first | omega | (dsimp only; omega)), by (first | omega | (dsimp only; omega))⟩, by (first | omega | (dsimp only; omega))⟩
          dsimp only
          rw [p1, p2, ← p3, ← strs_snoc]
          refine ent_rows _ (by (repeat' first | exact trivial | refine ⟨?_, ?_⟩ | rfl)) rfl ⟨⟨?_, ?_⟩, True.intro⟩ (Nat.le_refl _)
          · exact hset_at _ _ _
          · (first | omega | (dsimp only; omega))
    · exfalso
      obtain ⟨c1, c2, _⟩ := ch7_ok hdp hk2
      obtain ⟨q, hq⟩ := List.mem_iff_getElem?.1 ((hbm _).2 c1)
      have hq2 : q < bn.length := (List.getElem?_eq_some_iff.1 hq).1
      exact hinv q _ (by omega) hq ⟨c2, rfl⟩
  · obtain rfl : k = N := by omega
    have hd : decide ((k : Int) < k) = false := decide_eq_false (by omega)
    repeat' first
     | refine v_seq ?_ | refine v_block ?_ | refine v_ret ?_ | refine v_skip ?_ | (refine v_exit ?_; repeat' first | refine xB_eq ?_ | refine xB_ne rfl ?_)
     | ((first | refine rgA fun K hK => ?_ | refine rgB rfl fun K hK => ?_ | refine rgC rfl fun K hK => ?_); simp only [go_sem,simprocAttr,hd,hls])
     | (simp (disch := first | omega | rfl | (simp only [lnn]; omega)) only [spl])
     | (refine hK _ ?_; clear hK K)
     | (refine gdB_intro (fun h => ?_) (fun h => ?_) <;> simp only [go_sem,simprocAttr,h,hd,hls] <;> (have h' := h; try simp only [bl] at h'))
     | (refine v_cond rfl (fun h => ?_) (fun h => ?_) <;> first | (exact Bool.noConfusion h) | (have h' := h; try simp only [bl] at h'))
     | (refine r_ret ?_; simp only [resL, resA, Tryz.f23, lk_cons', lk_nil', Nat.reduceBEq]; first | exact ⟨rfl, Sb.nil _, rfl⟩ | refine ⟨rfl, sbt ?_, rfl⟩ | refine ⟨rfl, Sb.of_eq ?_, rfl⟩)
     | (refine And.intro (by first | exact True.intro | omega | rfl | exact Nat.le_of_ble_eq_true rfl | (simp only [lnn]; omega) | exact List.forall_mem_nil _ | (refine List.forall_mem_cons.2 ⟨⟨_, rfl⟩, ?_⟩; repeat' first | exact List.forall_mem_nil _ | refine List.forall_mem_cons.2 ⟨⟨_, rfl⟩, ?_⟩)) ?_)
     | fail
    refine r_freeze r (hset_at emp r _) (strs_plain _) (r_ret ?_)
    have hle : 0 + k * 1 ≤ (strs (namA (dvn ts G) c k ts.length nm k)).length := by rw [hsl]; omega
    have htk1 : List.take (k * 1) (List.drop 0 (strs (namA (dvn ts G) c k ts.length nm k))) = strs (namA (dvn ts G) c k ts.length nm k) := List.take_of_length_le (by rw [List.drop_zero, hsl]; omega)
    simp only [resL, resA, Tryz.f23, fzF, lk_cons', lk_nil', Nat.reduceBEq, AV.fz, beq_self_eq_true, cond_true, if_pos hle, htk1]
    subst hnm
    have hpl : ∀ a b : Int, (AV.tu [AV.sl 1 k (strs (namA (dvn ts G) c k ts.length (fun i => (gt7 ts i).nm) k)), iv a, iv b]).plain = true := fun a b => by simp [plainL, AV.plain, strs_plain]
    refine ⟨hpl _ _, Sb.of_eq ?_, by simp [plainL, AV.plain, strs_plain]⟩
    unfold ssl namA
    simp only [List.length_map, List.length_range]
end Go.Proofs.YtabmhfmglhjmjaaGreatDoor
set_option maxRecDepth 100000
set_option maxHeartbeats 4000000
set_option linter.unusedSimpArgs false
set_option linter.unusedVariables false
set_option linter.unusedSectionVars false
namespace Go.Proofs.YtabmhfmglhjmjaaGreatDoor
open Go.Ab Go.RowKit
variable [Dr]
def gs7 (l : List ByteArray) (k : Nat) : ByteArray := l.getD k ⟨#[]⟩
def cIx (ts : List Tf) (l : List ByteArray) (k : Nat) : Int := idxP (fun j => nmEq (gt7 ts j).nm (gs7 l k)) ts.length
def cEr (ts : List Tf) (G : Nat) (l : List ByteArray) (k : Nat) : Int := bif decide (cIx ts l k < 0) then 6 else bif dvn ts G k (cIx ts l k).toNat == -1 then 14 else 0
def cErTo (ts : List Tf) (G : Nat) (l : List ByteArray) : Nat → Int
  | 0 => 0
  | k + 1 => bif cErTo ts G l k != 0 then cErTo ts G l k else cEr ts G l k
def cIxs (ts : List Tf) (l : List ByteArray) (k : Nat) : List Int := (List.range k).map (cIx ts l)
theorem cIxs_len (ts : List Tf) (l : List ByteArray) (k : Nat) : (cIxs ts l k).length = k := by simp [cIxs]
theorem cIxs_succ (ts : List Tf) (l : List ByteArray) (k : Nat) : cIxs ts l k ++ [cIx ts l k] = cIxs ts l (k + 1) := by simp [cIxs, List.range_succ]
theorem gi_cIxs {ts : List Tf} {l : List ByteArray} {m k : Nat} (h : k < m) : gi (cIxs ts l m) (k : Nat) = cIx ts l k := by simp [gi, cIxs, h]
def cErr (ts : List Tf) (G m : Nat) (l : List ByteArray) : Int := bif l.length != m then 10 else cErTo ts G l m
theorem cErTo_stop {ts : List Tf} {G : Nat} {l : List ByteArray} {k : Nat} (h : cErTo ts G l k = 0) (he : cEr ts G l k ≠ 0) : ∀ m, k < m → cErTo ts G l m = cEr ts G l k
  | 0, hm => absurd hm (by omega)
  | m + 1, hm => by
    by_cases hk : k = m
    · subst hk; rw [cErTo, h]; rfl
    · have := cErTo_stop h he m (by omega)
      rw [cErTo, this, show (cEr ts G l k != 0) = true by simpa using he]; rfl
theorem strs_at {l : List ByteArray} {k : Nat} (h : k < l.length) : (strs l)[k]? = some (.v (.string (gs7 l k))) := by
  unfold strs gs7
  rw [List.getElem?_map, List.getElem?_eq_getElem h, List.getD_eq_getElem?_getD, List.getElem?_eq_getElem h]; rfl
theorem c_chosen (ts : List Tf) (n g c : Int) (G m : Nat) (l : List ByteArray) (hT : Len ts.length) (hm : Len m) (hl : Len l.length) :
    Pure Tryz.prog 106 [tkX ts n g c G m, ssl l] (.tu [isl (bif cErr ts G m l == 0 then cIxs ts l m else []), iv (cErr ts G m l)]) := by
  unfold Len at hm hl
  have hT' := hT
  unfold Len at hT'
  have hdC := devC_len ts G m
  have hsl := strs_len l
  have hTl := tcs_len ts
  refine p_intro evOk [6] Tryz.func106 rfl Tryz.call106 ?_
  cases h0 : l.length != m
  · obtain rfl : l.length = m := by simpa using h0
    have hce : cErr ts G l.length l = cErTo ts G l l.length := by unfold cErr; rw [h0]; rfl
    have hne : ((l.length : Int) != (l.length : Nat)) = false := by simp
    rw [hce]
    repeat' first
     | refine v_seq ?_ | refine v_block ?_ | refine v_ret ?_ | refine v_skip ?_ | (refine v_exit ?_; repeat' first | refine xB_eq ?_ | refine xB_ne rfl ?_)
     | ((first | refine rgA fun K hK => ?_ | refine rgB rfl fun K hK => ?_ | refine rgC rfl fun K hK => ?_); simp only [go_sem,simprocAttr,hne,hdC])
     | (simp (disch := first | omega | rfl | (simp only [lnn]; omega)) only [spl])
     | (refine hK _ ?_; clear hK K)
     | (refine gdB_intro (fun h => ?_) (fun h => ?_) <;> simp only [go_sem,simprocAttr,h,hne,hdC] <;> (have h' := h; try simp only [bl] at h'))
     | (refine v_cond rfl (fun h => ?_) (fun h => ?_) <;> first | (exact Bool.noConfusion h) | (have h' := h; try simp only [bl] at h'))
     | (refine r_ret ?_; simp only [resL, resA, Tryz.f106, lk_cons', lk_nil', Nat.reduceBEq]; first | exact ⟨rfl, Sb.nil _, rfl⟩ | refine ⟨rfl, sbt ?_, rfl⟩ | refine ⟨rfl, Sb.of_eq ?_, rfl⟩)
     | (refine And.intro (by first | exact True.intro | omega | rfl | exact Nat.le_of_ble_eq_true rfl | (simp only [lnn]; omega) | exact List.forall_mem_nil _ | (refine List.forall_mem_cons.2 ⟨⟨_, rfl⟩, ?_⟩; repeat' first | exact List.forall_mem_nil _ | refine List.forall_mem_cons.2 ⟨⟨_, rfl⟩, ?_⟩)) ?_)
     | fail
    refine v_loop (T := Nat) (fun k => ⟨[(1, ssl l), (2, .pt [tsl ts, iv n, iv g, iv c, .sl 1 l.length (devC ts G l.length)] 0), (6, .ls k 0 1 k), (16, ssl l), (17, iv l.length), (18, iv k)], hls [(k, ints (cIxs ts l k))], k + 1, (45, 0, 0)⟩) (fun k => k ≤ l.length ∧ cErTo ts G l k = 0) (fun k => l.length - k) 0 ⟨by omega, rfl⟩ ?_ ?_
    · exact ent_rows [(0, ints (cIxs ts l 0))] (by (repeat' first | exact trivial | refine ⟨?_, ?_⟩ | rfl)) rfl ⟨⟨by simp [hset', hls, cIxs, ints], by (first | omega | (dsimp only; omega))⟩, True.intro⟩ (by (first | omega | (dsimp only; omega)))
    rintro k ⟨hk, hE⟩
    have hil : (ints (cIxs ts l k)).length = k := by rw [ints_length, cIxs_len]
    have htk : List.take k (ints (cIxs ts l k)) = ints (cIxs ts l k) := List.take_of_length_le (by omega)
    have htk2 : List.take k (cIxs ts l k) = cIxs ts l k := List.take_of_length_le (by rw [cIxs_len]; omega)
    have hcl := cIxs_len ts l k
    have e1 : (k + 1 == k) = false := beq_ne (by omega)
    by_cases hk2 : k < l.length
    · have hd : decide ((k : Int) < l.length) = true := decide_eq_true (by omega)
      have s1 : (strs l)[((k : Nat) : Int).toNat * 1]? = some (.v (.string (gs7 l k))) := by rw [Int.toNat_natCast, Nat.mul_one]; exact strs_at hk2
      have s1' : (strs l)[((k : Nat) : Int).toNat]? = some (.v (.string (gs7 l k))) := strs_at hk2
      have d1 : (devC ts G l.length)[((k : Nat) : Int).toNat * 1]? = some (isl (devRow ts G k)) := by rw [Int.toNat_natCast, Nat.mul_one]; exact devC_at (by omega)
      have d1' : (devC ts G l.length)[((k : Nat) : Int).toNat]? = some (isl (devRow ts G k)) := devC_at (by omega)
      have hdl := devRow_len ts G k
      have hsu : cErTo ts G l (k + 1) = cEr ts G l k := by rw [cErTo, hE]; rfl
      have ki := c_index ts (gs7 l k) hT
      have hcx : cIx ts l k = idxP (fun j => nmEq (gt7 ts j).nm (gs7 l k)) ts.length := rfl
      rw [← hcx] at ki
      rcases idxP_inv (p := fun j => nmEq (gt7 ts j).nm (gs7 l k)) (n := ts.length) with ⟨h1, _⟩ | ⟨i, h1, h2, _, _⟩
      · have hx : cIx ts l k = -1 := h1
        rw [hx] at ki
        have hce2 : cEr ts G l k = 6 := by unfold cEr; rw [hx]; rfl
        have hb : decide ((-1 : Int) < 0) = true := rfl
        rw [cErTo_stop hE (by rw [hce2]; decide) _ hk2, hce2]
        repeat' first
         | refine v_seq ?_ | refine v_block ?_ | refine v_ret ?_ | refine v_skip ?_ | (refine v_exit ?_; repeat' first | refine xB_eq ?_ | refine xB_ne rfl ?_)
         | ((first | refine rgA fun K hK => ?_ | refine rgB rfl fun K hK => ?_ | refine rgC rfl fun K hK => ?_); simp only [go_sem,simprocAttr,hd,hb,hls,s1,s1',hsl])
         | (simp (disch := first | omega | rfl | (simp only [lnn]; omega)) only [spl])
         | (refine hK _ ?_; clear hK K)
         | (refine gdB_intro (fun h => ?_) (fun h => ?_) <;> simp only [go_sem,simprocAttr,h,hd,hb,hls,s1,s1',hsl] <;> (have h' := h; try simp only [bl] at h'))
         | (refine v_cond rfl (fun h => ?_) (fun h => ?_) <;> first | (exact Bool.noConfusion h) | (have h' := h; try simp only [bl] at h'))
         | (refine r_ret ?_; simp only [resL, resA, Tryz.f106, lk_cons', lk_nil', Nat.reduceBEq]; first | exact ⟨rfl, Sb.nil _, rfl⟩ | refine ⟨rfl, sbt ?_, rfl⟩ | refine ⟨rfl, Sb.of_eq ?_, rfl⟩)
         | (refine And.intro (by first | exact True.intro | omega | rfl | exact Nat.le_of_ble_eq_true rfl | (simp only [lnn]; omega) | exact List.forall_mem_nil _ | (refine List.forall_mem_cons.2 ⟨⟨_, rfl⟩, ?_⟩; repeat' first | exact List.forall_mem_nil _ | refine List.forall_mem_cons.2 ⟨⟨_, rfl⟩, ?_⟩)) ?_)
         | ((first | refine call_pure' (ki) rfl ?_); simp only [go_sem,simprocAttr,hd,hb,hls,s1,s1',hsl])
         | (simp only [go_sem,simprocAttr,s1,s1',hsl])
         | fail
        all_goals rfl
      · have hx : cIx ts l k = (i : Nat) := h1
        rw [hx] at ki
        have hb : decide ((i : Int) < 0) = false := decide_eq_false (by omega)
        have hgd : gi (devRow ts G k) (i : Nat) = dvn ts G k i := gi_devRow h2
        have hce2 : cEr ts G l k = bif dvn ts G k i == -1 then 14 else 0 := by unfold cEr; rw [hx, hb, cond_false, Int.toNat_natCast]
        cases hz : dvn ts G k i == -1
        · rw [hz, cond_false] at hce2
          repeat' first
           | refine v_seq ?_ | refine v_block ?_ | refine v_ret ?_ | refine v_skip ?_ | (refine v_exit ?_; repeat' first | refine xB_eq ?_ | refine xB_ne rfl ?_)
           | ((first | refine rgA fun K hK => ?_ | refine rgB rfl fun K hK => ?_ | refine rgC rfl fun K hK => ?_); simp only [go_sem,simprocAttr,hd,hb,hls,s1,s1',hsl,d1,d1',hdC,hgd,hz,hil,hcl,htk,e1,hset_at])
           | (simp (disch := first | omega | rfl | (simp only [lnn]; omega)) only [spl])
           | (refine hK _ ?_; clear hK K)
           | (refine gdB_intro (fun h => ?_) (fun h => ?_) <;> simp only [go_sem,simprocAttr,h,hd,hb,hls,s1,s1',hsl,d1,d1',hdC,hgd,hz,hil,hcl,htk,e1,hset_at] <;> (have h' := h; try simp only [bl] at h'))
           | (refine v_cond rfl (fun h => ?_) (fun h => ?_) <;> first | (exact Bool.noConfusion h) | (have h' := h; try simp only [bl] at h'))
           | (refine r_ret ?_; simp only [resL, resA, Tryz.f106, lk_cons', lk_nil', Nat.reduceBEq]; first | exact ⟨rfl, Sb.nil _, rfl⟩ | refine ⟨rfl, sbt ?_, rfl⟩ | refine ⟨rfl, Sb.of_eq ?_, rfl⟩)
           | (refine And.intro (by first | exact True.intro | omega | rfl | exact Nat.le_of_ble_eq_true rfl | (simp only [lnn]; omega) | exact List.forall_mem_nil _ | (refine List.forall_mem_cons.2 ⟨⟨_, rfl⟩, ?_⟩; repeat' first | exact List.forall_mem_nil _ | refine List.forall_mem_cons.2 ⟨⟨_, rfl⟩, ?_⟩)) ?_)
           | ((first | refine call_pure' (ki) rfl ?_); simp only [go_sem,simprocAttr,hd,hb,hls,s1,s1',hsl,d1,d1',hdC,hgd,hz,hil,hcl,htk,e1,hset_at])
           | (simp only [go_sem,simprocAttr,s1,s1',hsl,d1,d1',hdC,isl,hil,htk])
           | (simp only [htk])
           | fail
          · exfalso
            have hz' : ¬dvn ts G k i = -1 := by simpa using hz
            omega
          refine ⟨k + 1, ?_, ⟨by omega, by rw [hsu, hce2]⟩, by omega⟩
          rw [← cIxs_succ, hx]
          exact ent_rows [(k + 1, ints (cIxs ts l k ++ [((i : Nat) : Int)]))] (by (repeat' first | exact trivial | refine ⟨?_, ?_⟩ | rfl)) rfl ⟨⟨by simp [hset', hls, htk2], by (first | omega | (dsimp only; omega))⟩, True.intro⟩ (by (first | omega | (dsimp only; omega)))
        · rw [hz, cond_true] at hce2
          rw [cErTo_stop hE (by rw [hce2]; decide) _ hk2, hce2]
          repeat' first
           | refine v_seq ?_ | refine v_block ?_ | refine v_ret ?_ | refine v_skip ?_ | (refine v_exit ?_; repeat' first | refine xB_eq ?_ | refine xB_ne rfl ?_)
           | ((first | refine rgA fun K hK => ?_ | refine rgB rfl fun K hK => ?_ | refine rgC rfl fun K hK => ?_); simp only [go_sem,simprocAttr,hd,hb,hls,s1,s1',hsl,d1,d1',hdC,hgd,hz])
           | (simp (disch := first | omega | rfl | (simp only [lnn]; omega)) only [spl])
           | (refine hK _ ?_; clear hK K)
           | (refine gdB_intro (fun h => ?_) (fun h => ?_) <;> simp only [go_sem,simprocAttr,h,hd,hb,hls,s1,s1',hsl,d1,d1',hdC,hgd,hz] <;> (have h' := h; try simp only [bl] at h'))
           | (refine v_cond rfl (fun h => ?_) (fun h => ?_) <;> first | (exact Bool.noConfusion h) | (have h' := h; try simp only [bl] at h'))
           | (refine r_ret ?_; simp only [resL, resA, Tryz.f106, lk_cons', lk_nil', Nat.reduceBEq]; first | exact ⟨rfl, Sb.nil _, rfl⟩ | refine ⟨rfl, sbt ?_, rfl⟩ | refine ⟨rfl, Sb.of_eq ?_, rfl⟩)
           | (refine And.intro (by first | exact True.intro | omega | rfl | exact Nat.le_of_ble_eq_true rfl | (simp only [lnn]; omega) | exact List.forall_mem_nil _ | (refine List.forall_mem_cons.2 ⟨⟨_, rfl⟩, ?_⟩; repeat' first | exact List.forall_mem_nil _ | refine List.forall_mem_cons.2 ⟨⟨_, rfl⟩, ?_⟩)) ?_)
           | ((first | refine call_pure' (ki) rfl ?_); simp only [go_sem,simprocAttr,hd,hb,hls,s1,s1',hsl,d1,d1',hdC,hgd,hz])
           | (simp only [go_sem,simprocAttr,s1,s1',hsl,d1,d1',hdC,isl])
           | fail
          · exfalso
            have hz' : dvn ts G k i = -1 := by simpa using hz
            omega
    · obtain rfl : k = l.length := by omega
      have hd : decide ((l.length : Int) < l.length) = false := decide_eq_false (by omega)
      rw [hE]
      repeat' first
       | refine v_seq ?_ | refine v_block ?_ | refine v_ret ?_ | refine v_skip ?_ | (refine v_exit ?_; repeat' first | refine xB_eq ?_ | refine xB_ne rfl ?_)
       | ((first | refine rgA fun K hK => ?_ | refine rgB rfl fun K hK => ?_ | refine rgC rfl fun K hK => ?_); simp only [go_sem,simprocAttr,hd,hls])
       | (simp (disch := first | omega | rfl | (simp only [lnn]; omega)) only [spl])
       | (refine hK _ ?_; clear hK K)
       | (refine gdB_intro (fun h => ?_) (fun h => ?_) <;> simp only [go_sem,simprocAttr,h,hd,hls] <;> (have h' := h; try simp only [bl] at h'))
       | (refine v_cond rfl (fun h => ?_) (fun h => ?_) <;> first | (exact Bool.noConfusion h) | (have h' := h; try simp only [bl] at h'))
       | (refine r_ret ?_; simp only [resL, resA, Tryz.f106, lk_cons', lk_nil', Nat.reduceBEq]; first | exact ⟨rfl, Sb.nil _, rfl⟩ | refine ⟨rfl, sbt ?_, rfl⟩ | refine ⟨rfl, Sb.of_eq ?_, rfl⟩)
       | (refine And.intro (by first | exact True.intro | omega | rfl | exact Nat.le_of_ble_eq_true rfl | (simp only [lnn]; omega) | exact List.forall_mem_nil _ | (refine List.forall_mem_cons.2 ⟨⟨_, rfl⟩, ?_⟩; repeat' first | exact List.forall_mem_nil _ | refine List.forall_mem_cons.2 ⟨⟨_, rfl⟩, ?_⟩)) ?_)
       | fail
      refine r_freeze l.length (hset_at emp _ _) (ints_plain _) (r_ret ?_)
      have hfz9 : AV.fz l.length (ints (cIxs ts l l.length)) (.ls l.length 0 1 l.length) = isl (cIxs ts l l.length) := fz_isl (by omega)
      simp only [resL, resA, Tryz.f106, fzF, hfz9, fz_other, lk_cons', lk_nil', Nat.reduceBEq]
      exact ⟨by simp [plainL, AV.plain, ints_plain, isl], Sb.of_eq rfl, by simp [plainL, AV.plain, ints_plain, isl]⟩
  · have hce : cErr ts G m l = 10 := by unfold cErr; rw [h0]; rfl
    have hn1 : l.length ≠ m := by simpa using h0
    have hne : ((l.length : Int) != (m : Nat)) = true := by rw [bne_iff_ne]; omega
    rw [hce]
    repeat' first
     | refine v_seq ?_ | refine v_block ?_ | refine v_ret ?_ | refine v_skip ?_ | (refine v_exit ?_; repeat' first | refine xB_eq ?_ | refine xB_ne rfl ?_)
     | ((first | refine rgA fun K hK => ?_ | refine rgB rfl fun K hK => ?_ | refine rgC rfl fun K hK => ?_); simp only [go_sem,simprocAttr,hne,hdC,hsl])
     | (simp (disch := first | omega | rfl | (simp only [lnn]; omega)) only [spl])
     | (refine hK _ ?_; clear hK K)
     | (refine gdB_intro (fun h => ?_) (fun h => ?_) <;> simp only [go_sem,simprocAttr,h,hne,hdC,hsl] <;> (have h' := h; try simp only [bl] at h'))
     | (refine v_cond rfl (fun h => ?_) (fun h => ?_) <;> first | (exact Bool.noConfusion h) | (have h' := h; try simp only [bl] at h'))
     | (refine r_ret ?_; simp only [resL, resA, Tryz.f106, lk_cons', lk_nil', Nat.reduceBEq]; first | exact ⟨rfl, Sb.nil _, rfl⟩ | refine ⟨rfl, sbt ?_, rfl⟩ | refine ⟨rfl, Sb.of_eq ?_, rfl⟩)
     | (refine And.intro (by first | exact True.intro | omega | rfl | exact Nat.le_of_ble_eq_true rfl | (simp only [lnn]; omega) | exact List.forall_mem_nil _ | (refine List.forall_mem_cons.2 ⟨⟨_, rfl⟩, ?_⟩; repeat' first | exact List.forall_mem_nil _ | refine List.forall_mem_cons.2 ⟨⟨_, rfl⟩, ?_⟩)) ?_)
     | fail
    all_goals rfl
end Go.Proofs.YtabmhfmglhjmjaaGreatDoor
set_option maxRecDepth 100000
set_option maxHeartbeats 4000000
set_option linter.unusedSimpArgs false
set_option linter.unusedVariables false
set_option linter.unusedSectionVars false
namespace Go.Proofs.YtabmhfmglhjmjaaGreatDoor
open Go.Ab Go.RowKit
variable [Dr]
structure Pc where
  fr : Int
  so : Int
  lag : Int
def pcA (p : Pc) : List AV := [iv p.fr, iv p.so, iv p.lag]
def plc (l : List Pc) : List AV := l.flatMap pcA
theorem plc_len (l : List Pc) : (plc l).length = l.length * 3 := fm_len (c := pcA) (fun _ => rfl) l
theorem plc_snoc (l : List Pc) (p : Pc) : plc (l ++ [p]) = plc l ++ [iv p.fr, iv p.so, iv p.lag] := by simp [plc, pcA]
theorem plc_one : ∀ l : List Pc, oneL (plc l) = true
  | [] => rfl
  | p :: l => by
    have := plc_one l
    unfold plc oneL at *
    rw [List.flatMap_cons, List.all_append, this]
    rfl
theorem plc_plain : ∀ l : List Pc, plainL (plc l) = true
  | [] => rfl
  | p :: l => by
    have h := plc_plain l
    unfold plc at h ⊢
    rw [List.flatMap_cons, pcA, List.cons_append, List.cons_append, List.cons_append, List.nil_append]
    simp only [plainL, AV.plain, h, Bool.and_self]
abbrev plS (l : List Pc) : AV := .sl 3 l.length (plc l)
abbrev plA (n : Int) (l : List Pc) : AV := .ag [iv n, plS l]
def pcOf (ts : List Tf) (g : Int) (is : List Int) (k : Nat) : Pc := ⟨k * g, gi is k, (gt7 ts (gi is k).toNat).lag⟩
def pnew (is : List Int) (k : Nat) : Bool := k == 0 || gi is ((k : Int) - 1) != gi is k
def plTo (ts : List Tf) (g : Int) (is : List Int) : Nat → List Pc
  | 0 => []
  | k + 1 => bif pnew is k then plTo ts g is k ++ [pcOf ts g is k] else plTo ts g is k
theorem plTo_len (ts : List Tf) (g : Int) (is : List Int) : ∀ k, (plTo ts g is k).length ≤ k
  | 0 => Nat.le_refl _
  | k + 1 => by
    have := plTo_len ts g is k
    unfold plTo
    cases pnew is k
    · exact Nat.le_succ_of_le this
    · rw [cond_true, List.length_append, List.length_singleton]; omega
theorem c_PlanOk (ts : List Tf) (n g c : Int) (N G : Nat) (l : List ByteArray) (hT : TkOk ts n g c N G) (hl : Len l.length) (hD : Pure Tryz.prog 93 [tkA ts n g c] (.tu [tkX ts n g c G N, iv 0]))
    (he : cErr ts G N l = 0) (hi : ∀ k, k < N → 0 ≤ cIx ts l k ∧ cIx ts l k < ts.length) :
    Pure Tryz.prog 35 [tkA ts n g c, ssl l] (.tu [plA n (plTo ts g (cIxs ts l N) N), iv 0]) := by
  have h6 := hT.ok.n6
  have hK20 := hT.K20
  have hdC := devC_len ts G N
  have hTl := tcs_len ts
  have kch := c_chosen ts n g c G N l (by unfold Len; omega) (by unfold Len; omega) hl
  rw [he] at kch
  change Pure _ _ _ (.tu [isl (cIxs ts l N), iv 0]) at kch
  have hcl := cIxs_len ts l N
  have hbx : ((0 : Int) != 0) = false := rfl
  have htk5 : ∀ a b c d e : AV, List.take 5 [a, b, c, d, e] = [a, b, c, d, e] := fun _ _ _ _ _ => rfl
  have hp5 : plainL [tsl ts, iv n, iv g, iv c, .sl 1 N (devC ts G N)] = true := by simp [plainL, AV.plain, tsl, tcs_plain, devC_plain]
  unfold tkA tkX at *
  refine p_intro evOk [4, 6, 9] Tryz.func35 rfl Tryz.call35 ?_
  repeat' first
   | refine v_seq ?_ | refine v_block ?_ | refine v_ret ?_ | refine v_skip ?_ | (refine v_exit ?_; repeat' first | refine xB_eq ?_ | refine xB_ne rfl ?_)
   | ((first | refine rgA fun K hK => ?_ | refine rgB rfl fun K hK => ?_ | refine rgC rfl fun K hK => ?_); simp only [go_sem,simprocAttr,hbx,hset_at,hset_hset,spl5,htk5])
   | (simp (disch := first | omega | rfl | (simp only [lnn]; omega)) only [spl])
   | (refine hK _ ?_; clear hK K)
   | (refine gdB_intro (fun h => ?_) (fun h => ?_) <;> simp only [go_sem,simprocAttr,h,hbx,hset_at,hset_hset,spl5,htk5] <;> (have h' := h; try simp only [bl] at h'))
   | (refine v_cond rfl (fun h => ?_) (fun h => ?_) <;> first | (exact Bool.noConfusion h) | (have h' := h; try simp only [bl] at h'))
   | (refine r_ret ?_; simp only [resL, resA, Tryz.f35, lk_cons', lk_nil', Nat.reduceBEq]; first | exact ⟨rfl, Sb.nil _, rfl⟩ | refine ⟨rfl, sbt ?_, rfl⟩ | refine ⟨rfl, Sb.of_eq ?_, rfl⟩)
   | (refine And.intro (by first | exact True.intro | omega | rfl | exact Nat.le_of_ble_eq_true rfl | (simp only [lnn]; omega) | exact List.forall_mem_nil _ | (refine List.forall_mem_cons.2 ⟨⟨_, rfl⟩, ?_⟩; repeat' first | exact List.forall_mem_nil _ | refine List.forall_mem_cons.2 ⟨⟨_, rfl⟩, ?_⟩)) ?_)
   | ((first | refine call_pure' (hD) rfl ?_ | refine call_pure' (kch) rfl ?_); simp only [go_sem,simprocAttr,hbx,hset_at,hset_hset,spl5,htk5])
   | fail
  generalize his : cIxs ts l N = is at *
  refine vc_ent (ent_rows (fr := [(2, .pt [tsl ts, iv n, iv g, iv c] 0), (4, .lp 0 0), (8, isl is), (9, .lp 2 0), (34, isl is), (35, iv is.length), (36, iv 0)]) [(0, [iv 0, .v (.slice none 0 0)]), (2, [iv n, .v (.slice none 0 0)])] (by (repeat' first | exact trivial | refine ⟨?_, ?_⟩ | rfl)) rfl ⟨⟨by simp [hset'], by (first | omega | (dsimp only; omega))⟩, ⟨by simp [hset', splice], by (first | omega | (dsimp only; omega))⟩, True.intro⟩ (Nat.le_refl _)) ?_
  refine vc_ent (ent_nil_cell 2 1 3 (c := [iv n, .v (.slice none 0 0)]) (by simp [hls, hset']) rfl) ?_
  refine v_loop (T := Nat × Nat × Nat) (fun x => ⟨[(2, .pt [tsl ts, iv n, iv g, iv c] 0), (4, .lp 0 0), (8, isl is), (9, .lp 2 0), (34, isl is), (35, iv is.length), (36, iv x.1)], hls [(0, [iv 0, .v (.slice none 0 0)]), (2, [iv n, .ls x.2.1 0 3 (plTo ts g is x.1).length]), (x.2.1, plc (plTo ts g is x.1))], x.2.2, (71, 0, 0)⟩) (fun x => x.1 ≤ N ∧ 3 ≤ x.2.1 ∧ x.2.1 < x.2.2) (fun x => N - x.1) (0, 3, 4) ⟨by (first | omega | (dsimp only; omega)), by (first | omega | (dsimp only; omega)), by (first | omega | (dsimp only; omega))⟩ ?_ ?_
  · exact ent_rows _ (by (repeat' first | exact trivial | refine ⟨?_, ?_⟩ | rfl)) rfl ⟨⟨by simp [hset', hls], by (first | omega | (dsimp only; omega))⟩, ⟨by simp [hset', hls, plTo], by (first | omega | (dsimp only; omega))⟩, ⟨by simp [hset', hls, plTo, plc], by (first | omega | (dsimp only; omega))⟩, True.intro⟩ (Nat.le_refl _)
  rintro ⟨k, r, Y⟩ ⟨hk, hr, hrY⟩
  dsimp only at hk hr hrY ⊢
  have q0 : (r == 0) = false := beq_ne (by omega)
  have q1 : (0 == r) = false := beq_ne (by omega)
  have q2 : (r == 2) = false := beq_ne (by omega)
  have q3 : (2 == r) = false := beq_ne (by omega)
  have y0 : (Y == 0) = false := beq_ne (by omega)
  have y1 : (0 == Y) = false := beq_ne (by omega)
  have y2 : (Y == 2) = false := beq_ne (by omega)
  have y3 : (2 == Y) = false := beq_ne (by omega)
  have y4 : (Y == r) = false := beq_ne (by omega)
  have y5 : (r == Y) = false := beq_ne (by omega)
  have r0 : (0 == 2) = false := rfl
  have r1 : (2 == 0) = false := rfl
  have hpl := plTo_len ts g is k
  have hpc := plc_len (plTo ts g is k)
  have hpo := plc_one (plTo ts g is k)
  have htk : List.take ((plTo ts g is k).length * 3) (plc (plTo ts g is k)) = plc (plTo ts g is k) := List.take_of_length_le (by omega)
  by_cases hk2 : k < N
  · have hd : decide ((k : Int) < is.length) = true := decide_eq_true (by omega)
    have hik := hi k hk2
    obtain ⟨i, hix⟩ : ∃ i : Nat, cIx ts l k = i := ⟨(cIx ts l k).toNat, by omega⟩
    have hgk : gi is (k : Nat) = (i : Nat) := by rw [← his, gi_cIxs hk2, hix]
    have hiT : i < ts.length := by omega
    have t1 : (tcs ts)[((i : Nat) : Int).toNat * 3 + 1]? = some (iv (gt7 ts i).lag) := tcs_1 hiT
    have hsu : plTo ts g is (k + 1) = bif pnew is k then plTo ts g is k ++ [pcOf ts g is k] else plTo ts g is k := rfl
    have hkg : 0 ≤ (k : Int) * g ∧ (k : Int) * g ≤ 200 := by
      have h1 := hT.gG
      have h2 := hT.KG
      have h3 := hT.nb
      have h4 : (k : Int) * G ≤ (N : Int) * G := Int.mul_le_mul_of_nonneg_right (by omega) (by omega)
      have h5 : 0 ≤ (k : Int) * G := Int.mul_nonneg (by omega) (by omega)
      rw [h1]
      omega
    have hpo2 : pcOf ts g is k = ⟨(k : Int) * g, (i : Nat), (gt7 ts i).lag⟩ := by unfold pcOf; rw [hgk, Int.toNat_natCast]
    repeat' first
     | refine v_seq ?_ | refine v_block ?_ | refine v_ret ?_ | refine v_skip ?_ | (refine v_exit ?_; repeat' first | refine xB_eq ?_ | refine xB_ne rfl ?_)
     | ((first | refine rgA fun K hK => ?_ | refine rgB rfl fun K hK => ?_ | refine rgC rfl fun K hK => ?_); simp only [go_sem,simprocAttr,hd,hls,hgk,t1,hset_at,hset_hset,hpc,hpo,htk,q0,q1,q2,q3,y0,y1,y2,y3,y4,y5,r0,r1])
     | (simp (disch := first | omega | rfl | (simp only [lnn]; omega)) only [spl])
     | (refine hK _ ?_; clear hK K)
     | (refine gdB_intro (fun h => ?_) (fun h => ?_) <;> simp only [go_sem,simprocAttr,h,hd,hls,hgk,t1,hset_at,hset_hset,hpc,hpo,htk,q0,q1,q2,q3,y0,y1,y2,y3,y4,y5,r0,r1] <;> (have h' := h; try simp only [bl] at h'))
     | (refine v_cond rfl (fun h => ?_) (fun h => ?_) <;> first | (exact Bool.noConfusion h) | (have h' := h; try simp only [bl] at h'))
     | (refine r_ret ?_; simp only [resL, resA, Tryz.f35, lk_cons', lk_nil', Nat.reduceBEq]; first | exact ⟨rfl, Sb.nil _, rfl⟩ | refine ⟨rfl, sbt ?_, rfl⟩ | refine ⟨rfl, Sb.of_eq ?_, rfl⟩)
     | (refine And.intro (by first | exact True.intro | omega | rfl | exact Nat.le_of_ble_eq_true rfl | (simp only [lnn]; omega) | exact List.forall_mem_nil _ | (refine List.forall_mem_cons.2 ⟨⟨_, rfl⟩, ?_⟩; repeat' first | exact List.forall_mem_nil _ | refine List.forall_mem_cons.2 ⟨⟨_, rfl⟩, ?_⟩)) ?_)
     | (simp only [go_sem,simprocAttr,t1,tsl,htk,hpc,hpo,hset_at,hset_hset,q0,q1,q2,q3,y0,y1,y2,y3,y4,y5,r0,r1])
     | (simp only [htk])
     | fail
    all_goals
      first
      | (have hpn : pnew is k = true := by
          have : (k : Int) = 0 ∨ gi is ((k : Int) - 1) ≠ gi is (k : Nat) := by omega
          unfold pnew
          rcases this with h1 | h1
          · rw [show (k == 0) = true by simp; omega]; rfl
          · rw [show (gi is ((k : Int) - 1) != gi is (k : Nat)) = true by simpa using h1, Bool.or_true]
         refine ⟨(k + 1, Y, Y + 1), ?_, ⟨by (first | omega | (dsimp only; omega)), by (first | omega | (dsimp only; omega)), by (first | omega | (dsimp only; omega))⟩, by (first | omega | (dsimp only; omega))⟩
         dsimp only
         rw [hsu, hpn, cond_true, hpo2, plc_snoc, List.length_append, List.length_singleton]
         exact ent_rows _ (by (repeat' first | exact trivial | refine ⟨?_, ?_⟩ | rfl)) rfl ⟨⟨by simp [hset', q0, y0, y1, r0, r1], by (first | omega | (dsimp only; omega))⟩, ⟨by simp [hset', q2, y2, y3, r0, r1, splice], by (first | omega | (dsimp only; omega))⟩, ⟨by simp [hset', htk, y2, y3, splice], by (first | omega | (dsimp only; omega))⟩, True.intro⟩ (Nat.le_refl _))
      | (have hpn : pnew is k = false := by
          have : (k : Int) ≠ 0 ∧ gi is ((k : Int) - 1) = gi is (k : Nat) := by omega
          unfold pnew
          rw [this.2, show (k == 0) = false from beq_ne (by omega)]
          simp
         refine ⟨(k + 1, r, Y), ?_, ⟨by (first | omega | (dsimp only; omega)), by (first | omega | (dsimp only; omega)), by (first | omega | (dsimp only; omega))⟩, by (first | omega | (dsimp only; omega))⟩
         dsimp only
         rw [hsu, hpn, cond_false]
         exact ent_rows _ (by (repeat' first | exact trivial | refine ⟨?_, ?_⟩ | rfl)) rfl ⟨⟨by simp [hset', q0, q1, r0, r1], by (first | omega | (dsimp only; omega))⟩, ⟨by simp [hset', q2, q3, r0, r1], by (first | omega | (dsimp only; omega))⟩, ⟨by simp [hset', q0, q1, q2, q3], by (first | omega | (dsimp only; omega))⟩, True.intro⟩ (Nat.le_refl _))
  · obtain rfl : k = N := by omega
    have hd : decide ((k : Int) < is.length) = false := decide_eq_false (by omega)
    repeat' first
     | refine v_seq ?_ | refine v_block ?_ | refine v_ret ?_ | refine v_skip ?_ | (refine v_exit ?_; repeat' first | refine xB_eq ?_ | refine xB_ne rfl ?_)
     | ((first | refine rgA fun K hK => ?_ | refine rgB rfl fun K hK => ?_ | refine rgC rfl fun K hK => ?_); simp only [go_sem,simprocAttr,hd,hls,r0,r1,q0,q1,q2,q3,hset_at,hset_hset])
     | (simp (disch := first | omega | rfl | (simp only [lnn]; omega)) only [spl])
     | (refine hK _ ?_; clear hK K)
     | (refine gdB_intro (fun h => ?_) (fun h => ?_) <;> simp only [go_sem,simprocAttr,h,hd,hls,r0,r1,q0,q1,q2,q3,hset_at,hset_hset] <;> (have h' := h; try simp only [bl] at h'))
     | (refine v_cond rfl (fun h => ?_) (fun h => ?_) <;> first | (exact Bool.noConfusion h) | (have h' := h; try simp only [bl] at h'))
     | (refine r_ret ?_; simp only [resL, resA, Tryz.f35, lk_cons', lk_nil', Nat.reduceBEq]; first | exact ⟨rfl, Sb.nil _, rfl⟩ | refine ⟨rfl, sbt ?_, rfl⟩ | refine ⟨rfl, Sb.of_eq ?_, rfl⟩)
     | (refine And.intro (by first | exact True.intro | omega | rfl | exact Nat.le_of_ble_eq_true rfl | (simp only [lnn]; omega) | exact List.forall_mem_nil _ | (refine List.forall_mem_cons.2 ⟨⟨_, rfl⟩, ?_⟩; repeat' first | exact List.forall_mem_nil _ | refine List.forall_mem_cons.2 ⟨⟨_, rfl⟩, ?_⟩)) ?_)
     | fail
    refine r_freezeH r (c := plc (plTo ts g is k)) (by simp [hset', q0, q1, q2, q3]) (plc_plain _) (r_ret ?_)
    have hle : 0 + (plTo ts g is k).length * 3 ≤ (plc (plTo ts g is k)).length := by omega
    have fzD : AV.fz r (plc (plTo ts g is k)) (.ls r 0 3 (plTo ts g is k).length) = plS (plTo ts g is k) := by
      simp only [AV.fz, beq_self_eq_true, cond_true, if_pos hle, List.drop_zero, htk]
    have fzL : AV.fz r (plc (plTo ts g is k)) (.lp 0 0) = .lp 0 0 := by simp only [AV.fz, q0, cond_false]
    have sp2 : ∀ a b x y : AV, splice [a, b] 0 [x, y] = [x, y] := fun _ _ _ _ => rfl
    simp only [resL, resA, Tryz.f35, go_sem,simprocAttr,fzF,hfz,hset_at,hset_hset,q0,q1,q2,q3,r0,r1,sp2,fzD,fzL,fz_sl,fz_other]
    exact Sb.refl _
end Go.Proofs.YtabmhfmglhjmjaaGreatDoor
set_option maxRecDepth 100000
set_option maxHeartbeats 4000000
set_option linter.unusedSimpArgs false
set_option linter.unusedVariables false
set_option linter.unusedSectionVars false
namespace Go.Proofs.YtabmhfmglhjmjaaGreatDoor
open Go.Ab Go.RowKit
variable [Dr]
def gpT (l : List Pc) (i : Nat) : Pc := l.getD i ⟨0, 0, 0⟩
theorem plc_atT {l : List Pc} {i : Nat} (h : i < l.length) : ((plc l).drop (i * 3)).take 3 = [iv (gpT l i).fr, iv (gpT l i).so, iv (gpT l i).lag] := by
  unfold plc
  rw [fm_at (c := pcA) (k := 3) (fun _ => rfl) h]
  simp [gpT, h, pcA]
end Go.Proofs.YtabmhfmglhjmjaaGreatDoor
namespace Go.Proofs
open Go.Shelf
def Tryz.layJoin_ren : Go.Shelf.Ren := ⟨fun | 156 => 130 | 165 => 157 | 166 => 158 | 169 => 159 | 240 => 199 | 241 => 200 | 276 => 227 | 277 => 228 | n => n, fun | 31 => 37 | 9 => 9 | 3 => 3 | 4 => 4 | 0 => 0 | 20 => 20 | 72 => 212 | 76 => 205 | 70 => 210 | 37 => 197 | 75 => 204 | 127 => 243 | 164 => 269 | 5 => 5 | 80 => 214 | n => n, fun | n => n⟩
theorem Tryz.layJoin : Go.Proofs.Lays.n156 Tryz.prog Tryz.layJoin_ren := {
  mixed := by kernel_rfl
  f156 := Tryz.func130.trans (congrArg some (by kernel_rfl))
  f165 := Tryz.func157.trans (congrArg some (by kernel_rfl))
  f166 := Tryz.func158.trans (congrArg some (by kernel_rfl))
  f169 := Tryz.func159.trans (congrArg some (by kernel_rfl))
  f240 := Tryz.func199.trans (congrArg some (by kernel_rfl))
  f241 := Tryz.func200.trans (congrArg some (by kernel_rfl))
  f276 := Tryz.func227.trans (congrArg some (by kernel_rfl))
  f277 := Tryz.func228.trans (congrArg some (by kernel_rfl))
  t0 := Tryz.underlying0
  a0 := Tryz.isAgg0
  z0 := Tryz.sizeOf0
  v0 := Tryz.zeroValue0
  t3 := Tryz.underlying3
  a3 := Tryz.isAgg3
  z3 := Tryz.sizeOf3
  v3 := Tryz.zeroValue3
  t4 := Tryz.underlying4
  a4 := Tryz.isAgg4
  z4 := Tryz.sizeOf4
  v4 := Tryz.zeroValue4
  t9 := Tryz.underlying9
  a9 := Tryz.isAgg9
  z9 := Tryz.sizeOf9
  v9 := Tryz.zeroValue9
  t20 := Tryz.underlying20
  a20 := Tryz.isAgg20
  z20 := Tryz.sizeOf20
  v20 := Tryz.zeroValue20
  t31 := Tryz.underlying37
  a31 := Tryz.isAgg37
  z31 := Tryz.sizeOf37
  v31 := Tryz.zeroValue37
  t37 := Tryz.underlying197
  a37 := Tryz.isAgg197
  z37 := Tryz.sizeOf197
  v37 := Tryz.zeroValue197
  t70 := Tryz.underlying210
  a70 := Tryz.isAgg210
  z70 := Tryz.sizeOf210
  v70 := Tryz.zeroValue210
  t72 := Tryz.underlying212
  a72 := Tryz.isAgg212
  z72 := Tryz.sizeOf212
  v72 := Tryz.zeroValue212
  t75 := Tryz.underlying204
  a75 := Tryz.isAgg204
  z75 := Tryz.sizeOf204
  v75 := Tryz.zeroValue204
  t76 := Tryz.underlying205
  a76 := Tryz.isAgg205
  z76 := Tryz.sizeOf205
  v76 := Tryz.zeroValue205
  t127 := Tryz.underlying243
  a127 := Tryz.isAgg243
  z127 := Tryz.sizeOf243
  v127 := Tryz.zeroValue243
  t164 := Tryz.underlying269
  a164 := Tryz.isAgg269
  z164 := Tryz.sizeOf269
  v164 := Tryz.zeroValue269 }
end Go.Proofs
set_option maxRecDepth 100000
set_option maxHeartbeats 4000000
set_option linter.unusedSimpArgs false
set_option linter.unusedVariables false
set_option linter.unusedSectionVars false
namespace Go.Proofs.YtabmhfmglhjmjaaGreatDoor
open Go.Ab Go.RowKit Go.Shelf Go.Proofs
theorem bldX : Builder.Extra Tryz.prog Tryz.layJoin_ren where
  sizeBuilder := by kernel_rfl
  liesBuilder := by kernel_rfl
  t5 := Tryz.underlying5
  a5 := Tryz.isAgg5
  z5 := Tryz.sizeOf5
  v5 := Tryz.zeroValue5
  infoByte := by kernel_rfl
  cellsByte := by kernel_rfl
  sizeByte := by kernel_rfl
  neB5 := by decide
class Lo [Dr] : Prop where
  h : Dr.loose
variable [Dr] [Lo]
def join7 (xs : List ByteArray) (sep : ByteArray) : ByteArray := ⟨(Lib.join (xs.map (·.data.toList)) sep.data.toList).toArray⟩
theorem c_Join (xs : List ByteArray) (sep : ByteArray) (h1 : 1 ≤ xs.length) (hl : xs.length ≤ 1000) (hs : (Lib.join (xs.map (·.data.toList)) sep.data.toList).length ≤ 140737488355328) :
    Pure Tryz.prog 130 [ssl xs, AV.v (.string sep)] (AV.v (.string (join7 xs sep))) := by
  refine ⟨Tryz.call130, fun O w vs hr hO => ?_⟩
  obtain ⟨u, hu, h0⟩ := hr.2 0 _ rfl
  obtain ⟨u1, hu1, h2⟩ := hr.2 1 _ rfl
  obtain rfl := h2.v_inv
  have hsl := strs_len xs
  have hat : ∀ (j : Nat) (x : ByteArray), xs[j]? = some x → (strs xs)[j]? = some (.v (.string x)) := fun j x hx => by
    unfold strs
    rw [List.getElem?_map, hx]; rfl
  have fin : ∀ (b off cap : Nat), u = .slice (some ⟨b, off, none⟩) xs.length cap → xs.length ≤ cap → b < w.heap.size → (∀ (j : Nat) (x : ByteArray), xs[j]? = some x → w.cell? ⟨b, off + j, none⟩ = some (.string x)) →
      Calls Tryz.prog 130 vs w (fun e w' => ∃ u, e = .returned u ∧ Gr w w' ∧ Rp O w' (.v (.string (join7 xs sep))) u) := by
    intro b off cap hu2 hcap hb hc
    have hvs : vs = #[.slice (some ⟨b, off, none⟩) xs.length cap, .string sep] := by
      refine Array.ext_getElem? fun j => ?_
      match j with
      | 0 => rw [hu, hu2]; rfl
      | 1 => rw [hu1]; rfl
      | j + 2 =>
        have : vs.size = 2 := hr.1
        rw [Array.getElem?_eq_none (by omega), Array.getElem?_eq_none (by simp)]
    subst hvs
    exact (Any.strings_Join Tryz.layJoin bldX b off cap xs sep w hc hb (by omega) hcap hs).mono fun e w' ⟨he, hw⟩ => ⟨_, he, Gr.of_below hw (.inl Lo.h), Rp.v _⟩
  have h0' : Rp O w (.sl 1 xs.length (strs xs)) u := h0
  clear h0 hu hu1
  generalize hN : xs.length = N at h0' h1 fin
  generalize hC : strs xs = C at h0' hat
  cases h0' with
  | nla sz a => omega
  | sl sz n cs b off cap f hO hb hn hl hc hr0 =>
    refine fin b off cap rfl hn hb fun j x hx => ?_
    have h3 := hc j _ (hat j x hx)
    have h4 := hr0 j _ (hat j x hx)
    have h5 : f j = .string x := Rp.v_inv h4
    rw [h3, h5]
instance drL : Dr := ⟨True, fun _ _ => True, fun _ h => h, fun _ _ h => h⟩
instance loL : @Lo drL := @Lo.mk drL True.intro
end Go.Proofs.YtabmhfmglhjmjaaGreatDoor

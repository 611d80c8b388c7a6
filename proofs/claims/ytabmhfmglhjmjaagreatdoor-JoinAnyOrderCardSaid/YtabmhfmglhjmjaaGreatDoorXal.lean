/- Parts of the proof, put together by a program. -/
import Derived.Test.YtabmhfmglhjmjaaGreatDoorXai
import Derived.Test.YtabmhfmglhjmjaaGreatDoorXak
set_option maxRecDepth 100000
set_option maxHeartbeats 4000000
set_option linter.unusedSimpArgs false
set_option linter.unusedVariables false
set_option linter.unusedSectionVars false
namespace Go.Proofs.YtabmhfmglhjmjaaGreatDoor
open Go.Ab Go.RowKit
variable [Dr]
def strs (l : List ByteArray) : List AV := l.map fun s => .v (.string s)
abbrev ssl (l : List ByteArray) : AV := .sl 1 l.length (strs l)
theorem strs_len (l : List ByteArray) : (strs l).length = l.length := by simp [strs]
theorem strs_plain : ∀ l : List ByteArray, plainL (strs l) = true
  | [] => rfl
  | s :: l => by
    have := strs_plain l
    unfold strs at *
    simp only [List.map_cons, plainL, AV.plain, this, Bool.and_self]
theorem strs_one : ∀ l : List ByteArray, oneL (strs l) = true
  | [] => rfl
  | s :: l => by
    have := strs_one l
    unfold oneL strs at *
    rw [List.map_cons, List.all_cons, this]
    rfl
theorem strs_snoc (l : List ByteArray) (s : ByteArray) : strs l ++ [.v (.string s)] = strs (l ++ [s]) := by simp [strs]
theorem X11.sbt {x a b : AV} {n : Nat} (h : a = b) : Sb (.tu [.v (.slice none 0 0), x, a]) (.tu [.sl n 0 [], x, b]) := Sb.tuL ⟨Sb.nil _, Sb.refl _, Sb.of_eq h, True.intro⟩
namespace X11
end X11
theorem cmpS_lt (a b : ByteArray) : decide (cmpS a b < 0) = nmLt a b := by
  unfold cmpS
  cases nmLt a b
  · cases nmLt b a <;> rfl
  · rfl
theorem nm_swo {γ : Type} (nm : γ → ByteArray) : Sort.SWO (Proofs.ltOf fun x y => cmpS (nm x) (nm y)) := by
  have key : ∀ x y : γ, Proofs.ltOf (fun x y => cmpS (nm x) (nm y)) x y = nmLt (nm x) (nm y) := fun x y => cmpS_lt _ _
  refine ⟨fun x => ?_, fun x y z h k => ?_, fun x y z h k => ?_⟩
  · rw [key]; exact nmLt_irrefl _
  · rw [key] at *; exact nmLt_trans h k
  · rw [key] at *; exact nmLt_ntrans h k
def natI (l : List Nat) : List Int := l.map fun (i : Nat) => (i : Int)
theorem natI_len (l : List Nat) : (natI l).length = l.length := by simp [natI]
theorem natI_succ (n : Nat) : natI (List.range n) ++ [(n : Int)] = natI (List.range (n + 1)) := by simp [natI, List.range_succ]
theorem gi_natI {l : List Nat} {p : Nat} (h : p < l.length) : gi (natI l) (p : Nat) = (l[p] : Nat) := by simp [gi, natI, h]
theorem m_sortNm (ts : List Tf) (n g c : Int) (G m : Nat) (h1 : 1 ≤ ts.length) (h6 : ts.length ≤ 6) (H : Hp) (nx r : Nat) (hr : H r = some (ints (natI (List.range ts.length)))) (K : AV → Hp → Nat → Prop)
    (hK : ∀ bn : List Nat, bn.Perm (List.range ts.length) → (∀ (p q : Nat) (i j : Nat), p < q → bn[p]? = some i → bn[q]? = some j → nmLt (gt7 ts j).nm (gt7 ts i).nm = false) → K (.tu []) (hset H r (some (ints (natI bn)))) nx) :
    CallM Tryz.prog 97 H nx [.ls r 0 1 ts.length, .fn (.func 98) [] [.pt [tsl ts, iv n, iv g, iv c, .sl 1 m (devC ts G m)] 0]] K := by
  let γ := { j : Nat // j < ts.length }
  haveI : Inhabited γ := ⟨⟨0, h1⟩⟩
  let d : List γ := (List.range ts.length).attachWith (fun j => j < ts.length) fun j hj => List.mem_range.1 hj
  have hdm : d.map (·.1) = List.range ts.length := List.attachWith_map_subtype_val _
  have hdl : d.length = ts.length := by have := congrArg List.length hdm; simpa using this
  have hmm : ∀ l : List γ, (l.map fun z => ((z.1 : Nat) : Int)) = natI (l.map (·.1)) := fun l => by simp [natI]
  have := m_sortI Tryz.sortInt (γ := γ) Tryz.call97 (fun z => ((z.1 : Nat) : Int)) (fun x y => cmpS (gt7 ts x.1).nm (gt7 ts y.1).nm) (nm_swo _) 98 Tryz.call98 [.pt [tsl ts, iv n, iv g, iv c, .sl 1 m (devC ts G m)] 0] (by simp [plainL, AV.plain, tcs_plain, devC_plain]) (fun x y => @c_BC2 drS ts n g c G m x.1 y.1 x.2 y.2) H nx r d
    (by omega) (by omega) (by rw [hr, hmm, hdm]) K (fun ys hp hst => by
      rw [hmm]
      refine hK _ (by rw [← hdm]; exact hp.map _) fun p q i j hpq hi hj => ?_
      rw [List.getElem?_map, Option.map_eq_some_iff] at hi hj
      obtain ⟨x, hx, rfl⟩ := hi
      obtain ⟨y, hy, rfl⟩ := hj
      have := hst p q x y hpq hx hy
      rw [← cmpS_lt]
      exact decide_eq_false (by omega))
  rw [hdl] at this
  exact this
def leftA (dv : Nat → Nat → Int) (c : Int) (K T : Nat) (nm : Nat → ByteArray) : Nat → Int
  | 0 => total7 dv c K T
  | k + 1 => rst dv c K T k (ch7 dv c K T nm k) - dv k (ch7 dv c K T nm k)
def befA (dv : Nat → Nat → Int) (c : Int) (K T : Nat) (nm : Nat → ByteArray) : Nat → Int
  | 0 => -1
  | k + 1 => (ch7 dv c K T nm k : Nat)
def namA (dv : Nat → Nat → Int) (c : Int) (K T : Nat) (nm : Nat → ByteArray) (k : Nat) : List ByteArray := (List.range k).map fun q => nm (ch7 dv c K T nm q)
theorem namA_len (dv : Nat → Nat → Int) (c : Int) (K T : Nat) (nm : Nat → ByteArray) (k : Nat) : (namA dv c K T nm k).length = k := by simp [namA]
theorem namA_succ (dv : Nat → Nat → Int) (c : Int) (K T : Nat) (nm : Nat → ByteArray) (k : Nat) : namA dv c K T nm k ++ [nm (ch7 dv c K T nm k)] = namA dv c K T nm (k + 1) := by simp [namA, List.range_succ]
theorem leftA_eq {dv : Nat → Nat → Int} {c : Int} {K T : Nat} {nm : Nat → ByteArray} {B : Int} (h : Dp dv c K T nm B) {k : Nat} (hk : k < K) : leftA dv c K T nm k = left7 dv c K T nm k := by
  cases k with
  | zero => exact (left7_zero h).symm
  | succ k => exact (left7_succ h hk).symm
theorem pickA {dv : Nat → Nat → Int} {c : Int} {K T : Nat} {nm : Nat → ByteArray} {B : Int} (h : Dp dv c K T nm B) {k : Nat} (hk : k < K) {bn : List Nat} (hbp : bn.Perm (List.range T))
    (hst : ∀ (p q : Nat) (i j : Nat), p < q → bn[p]? = some i → bn[q]? = some j → nmLt (nm j) (nm i) = false) {p j : Nat} (hp : bn[p]? = some j) (hd : dv k j ≠ -1) (hv : val7 dv c K T nm k j = left7 dv c K T nm k)
    (hinv : ∀ (q i : Nat), q < p → bn[q]? = some i → ¬(dv k i ≠ -1 ∧ val7 dv c K T nm k i = left7 dv c K T nm k)) : ch7 dv c K T nm k = j := by
  have hm : ∀ i, i ∈ bn ↔ i < T := fun i => by rw [hbp.mem_iff, List.mem_range]
  refine ch7_unique h hk ((hm j).1 (List.mem_of_getElem? hp)) hd fun i hi hdi => ?_
  obtain ⟨h1, h2, h3⟩ := ch7_ok h hk
  have hle : left7 dv c K T nm k ≤ val7 dv c K T nm k i := by
    unfold left7
    rcases h3 i hi hdi with h4 | ⟨h4, _⟩ <;> omega
  by_cases he : val7 dv c K T nm k i = left7 dv c K T nm k
  · right
    refine ⟨by omega, ?_⟩
    obtain ⟨q, hq⟩ := List.mem_iff_getElem?.1 ((hm i).2 hi)
    rcases Nat.lt_trichotomy q p with hqp | hqp | hqp
    · exact absurd ⟨hdi, he⟩ (hinv q i hqp hq)
    · rw [hqp, hp] at hq
      cases hq
      exact nmLt_irrefl _
    · exact hst p q j i hqp hp hq
  · left; omega
theorem c_BestG (ts : List Tf) (n g c : Int) (N G : Nat) (hT : TkOk ts n g c N G) (hg : ∀ k, k < N → gap7 ts G k = false) (hD : Pure Tryz.prog 93 [tkA ts n g c] (.tu [tkX ts n g c G N, iv 0])) :
    Pure Tryz.prog 23 [tkA ts n g c] (.tu [ssl ((List.range N).map fun k => (gt7 ts (ch7 (dvn ts G) c N ts.length (fun i => (gt7 ts i).nm) k)).nm), iv (total7 (dvn ts G) c N ts.length), iv 0]) := by
  have hdp := tk_dp hT hg
  have h6 := hT.ok.n6
  have hcb := hT.cb
  have hK1 := hT.K1
  have hK20 := hT.K20
  have hdC := devC_len ts G N
  have krest := c_rest ts n g c N G hT hg
  have hbx : ((0 : Int) != 0) = false := rfl
  have htk5 : ∀ a b c d e : AV, List.take 5 [a, b, c, d, e] = [a, b, c, d, e] := fun _ _ _ _ _ => rfl
  unfold tkA tkX at *
  refine p_intro evOk [5, 7, 9, 11, 45] Tryz.func23 rfl Tryz.call23 ?_
  repeat' first
   | refine v_seq ?_ | refine v_block ?_ | refine v_ret ?_ | refine v_skip ?_ | (refine v_exit ?_; repeat' first | refine xB_eq ?_ | refine xB_ne rfl ?_)
   | ((first | refine rgA fun K hK => ?_ | refine rgB rfl fun K hK => ?_ | refine rgC rfl fun K hK => ?_); simp only [go_sem,simprocAttr,hbx,hset_at,hset_hset,spl5,htk5])
   | (simp (disch := first | omega | rfl | (simp only [lnn]; omega)) only [spl])
   | (refine hK _ ?_; clear hK K)
   | (refine gdB_intro (fun h => ?_) (fun h => ?_) <;> simp only [go_sem,simprocAttr,h,hbx,hset_at,hset_hset,spl5,htk5] <;> (have h' := h; try simp only [bl] at h'))
   | (refine v_cond rfl (fun h => ?_) (fun h => ?_) <;> first | (exact Bool.noConfusion h) | (have h' := h; try simp only [bl] at h'))
   | (refine r_ret ?_; simp only [resL, resA, Tryz.f23, lk_cons', lk_nil', Nat.reduceBEq]; first | exact ⟨rfl, Sb.nil _, rfl⟩ | refine ⟨rfl, sbt ?_, rfl⟩ | refine ⟨rfl, Sb.of_eq ?_, rfl⟩)
   | (refine And.intro (by first | exact True.intro | omega | rfl | exact Nat.le_of_ble_eq_true rfl | (simp only [lnn]; omega) | exact List.forall_mem_nil _ | (refine List.forall_mem_cons.2 ⟨⟨_, rfl⟩, ?_⟩; repeat' first | exact List.forall_mem_nil _ | refine List.forall_mem_cons.2 ⟨⟨_, rfl⟩, ?_⟩)) ?_)
   | ((first | refine call_pure' (hD) rfl ?_); simp only [go_sem,simprocAttr,hbx,hset_at,hset_hset,spl5,htk5])
   | fail
  refine call_pure' krest (by simp [plainL, AV.plain, tsl, tcs_plain, devC_plain]) ?_
  simp only [go_sem,simprocAttr,hbx,hset_at,hset_hset,spl5,htk5]
  refine And.intro (by rfl) ?_
  refine hK _ ?_
  clear hK K
  refine vc_ent ((ent_freezeH 0 (c := [tsl ts, iv n, iv g, iv c, .sl 1 N (devC ts G N)]) (by simp [hset_hset, hset_at, hset', spl5]) (by simp [plainL, AV.plain, tsl, tcs_plain, devC_plain])).trans ((ent_freezeH 1 (c := [.sl 1 N (doneR ts c N G N)]) (by simp [hfz, hset_at, AV.fz]) (by simp [plainL, AV.plain, doneR_plain])).trans (ent_rows (fr := [(5, .pt [tsl ts, iv n, iv g, iv c, .sl 1 N (devC ts G N)] 0), (7, .pt [.sl 1 N (doneR ts c N G N)] 0)]) [] ?_ rfl True.intro (Nat.le_refl _)))) ?_
  · simp only [fzF, AV.fz, tsl, isl, iv, cond_false]
    (repeat' first | exact trivial | refine ⟨?_, ?_⟩ | rfl)
  have hR0 : (doneR ts c N G N)[0]? = some (isl (rstRow ts c N G 0)) := by
    have := hK1
    simp only [doneR, List.getElem?_map, List.getElem?_range (show 0 < N by omega), Option.map_some, Nat.sub_self, Nat.add_zero]
  have hrl := rstRow_len ts c N G 0
  have kbest := c_best _ 96 [.pt [.sl 1 N (doneR ts c N G N)] 0] (by simp [plainL, AV.plain, doneR_plain]) (it_first (doneR ts c N G N) (rstRow ts c N G 0) N hK1 hR0 (by rw [hrl]; exact h6))
  have htot : bL (costsTo (rstRow ts c N G 0) (fun k => gi (rstRow ts c N G 0) k) (rstRow ts c N G 0).length) = total7 (dvn ts G) c N ts.length := by
    rw [bL_costs, hrl]
    unfold total7
    refine bestN_congr _ (fun j hj => ?_) (fun j hj _ => ?_)
    · rw [gi_rstRow hj]; rfl
    · rw [gi_rstRow hj]
  rw [htot] at kbest
  repeat' first
   | refine v_seq ?_ | refine v_block ?_ | refine v_ret ?_ | refine v_skip ?_ | (refine v_exit ?_; repeat' first | refine xB_eq ?_ | refine xB_ne rfl ?_)
   | ((first | refine rgA fun K hK => ?_ | refine rgB rfl fun K hK => ?_ | refine rgC rfl fun K hK => ?_); simp only [go_sem,simprocAttr])
   | (simp (disch := first | omega | rfl | (simp only [lnn]; omega)) only [spl])
   | (refine hK _ ?_; clear hK K)
   | (refine gdB_intro (fun h => ?_) (fun h => ?_) <;> simp only [go_sem,simprocAttr,h] <;> (have h' := h; try simp only [bl] at h'))
   | (refine v_cond rfl (fun h => ?_) (fun h => ?_) <;> first | (exact Bool.noConfusion h) | (have h' := h; try simp only [bl] at h'))
   | (refine r_ret ?_; simp only [resL, resA, Tryz.f23, lk_cons', lk_nil', Nat.reduceBEq]; first | exact ⟨rfl, Sb.nil _, rfl⟩ | refine ⟨rfl, sbt ?_, rfl⟩ | refine ⟨rfl, Sb.of_eq ?_, rfl⟩)
   | (refine And.intro (by first | exact True.intro | omega | rfl | exact Nat.le_of_ble_eq_true rfl | (simp only [lnn]; omega) | exact List.forall_mem_nil _ | (refine List.forall_mem_cons.2 ⟨⟨_, rfl⟩, ?_⟩; repeat' first | exact List.forall_mem_nil _ | refine List.forall_mem_cons.2 ⟨⟨_, rfl⟩, ?_⟩)) ?_)
   | ((first | refine call_pure' (kbest) rfl ?_); simp only [go_sem,simprocAttr])
   | fail
  refine v_loop (T := Nat) (fun i => ⟨[(5, .pt [tsl ts, iv n, iv g, iv c, .sl 1 N (devC ts G N)] 0), (7, .pt [.sl 1 N (doneR ts c N G N)] 0), (8, iv (total7 (dvn ts G) c N ts.length)), (9, .ls (2 + i) 0 1 i), (34, iv ts.length), (35, iv i)], hls [(2 + i, ints (natI (List.range i)))], 3 + i, (109, 0, 0)⟩) (fun i => i ≤ ts.length) (fun i => ts.length - i) 0 (by omega) ?_ ?_
  · exact ent_rows [(2 + 0, ints (natI (List.range 0)))] (by (repeat' first | exact trivial | refine ⟨?_, ?_⟩ | rfl)) rfl ⟨⟨by simp [hset', hls, natI, ints], by (first | omega | (dsimp only; omega))⟩, True.intro⟩ (by (first | omega | (dsimp only; omega)))
  intro i hi
  have hnl : (natI (List.range i)).length = i := by simp [natI]
  have hil : (ints (natI (List.range i))).length = i := by rw [ints_length, hnl]
  have htk : List.take i (ints (natI (List.range i))) = ints (natI (List.range i)) := List.take_of_length_le (by omega)
  have e1 : (3 + i == 2 + i) = false := beq_ne (by omega)
  have e2 : (2 + i == 3 + i) = false := beq_ne (by omega)
  by_cases hi2 : i < ts.length
  · have hd : decide ((i : Int) < ts.length) = true := decide_eq_true (by omega)
    repeat' first
     | refine v_seq ?_ | refine v_block ?_ | refine v_ret ?_ | refine v_skip ?_ | (refine v_exit ?_; repeat' first | refine xB_eq ?_ | refine xB_ne rfl ?_)
     | ((first | refine rgA fun K hK => ?_ | refine rgB rfl fun K hK => ?_ | refine rgC rfl fun K hK => ?_); simp only [go_sem,simprocAttr,hd,hls,hset_at,hil,htk,hnl,e1,e2])
     | (simp (disch := first | omega | rfl | (simp only [lnn]; omega)) only [spl])
     | (refine hK _ ?_; clear hK K)
     | (refine gdB_intro (fun h => ?_) (fun h => ?_) <;> simp only [go_sem,simprocAttr,h,hd,hls,hset_at,hil,htk,hnl,e1,e2] <;> (have h' := h; try simp only [bl] at h'))
     | (refine v_cond rfl (fun h => ?_) (fun h => ?_) <;> first | (exact Bool.noConfusion h) | (have h' := h; try simp only [bl] at h'))
     | (refine r_ret ?_; simp only [resL, resA, Tryz.f23, lk_cons', lk_nil', Nat.reduceBEq]; first | exact ⟨rfl, Sb.nil _, rfl⟩ | refine ⟨rfl, sbt ?_, rfl⟩ | refine ⟨rfl, Sb.of_eq ?_, rfl⟩)
     | (refine And.intro (by first | exact True.intro | omega | rfl | exact Nat.le_of_ble_eq_true rfl | (simp only [lnn]; omega) | exact List.forall_mem_nil _ | (refine List.forall_mem_cons.2 ⟨⟨_, rfl⟩, ?_⟩; repeat' first | exact List.forall_mem_nil _ | refine List.forall_mem_cons.2 ⟨⟨_, rfl⟩, ?_⟩)) ?_)
     | (simp only [htk])
     | fail
    refine ⟨i + 1, ?_, by omega, by omega⟩
    have htk2 : List.take i (natI (List.range i)) = natI (List.range i) := List.take_of_length_le (by omega)
    rw [show 2 + (i + 1) = 3 + i by omega, show 3 + (i + 1) = 3 + i + 1 by omega]
    exact ent_rows [(3 + i, ints (natI (List.range (i + 1))))] (by (repeat' first | exact trivial | refine ⟨?_, ?_⟩ | rfl)) rfl ⟨⟨by simp [hset', hls, ← natI_succ, htk2], by (first | omega | (dsimp only; omega))⟩, True.intro⟩ (by (first | omega | (dsimp only; omega)))
  obtain rfl : i = ts.length := by omega
  have hd : decide ((ts.length : Int) < ts.length) = false := decide_eq_false (by omega)
  have hso := m_sortNm ts n g c G N hT.ok.n1 h6 (hls [(2 + ts.length, ints (natI (List.range ts.length)))]) (3 + ts.length) (2 + ts.length) (by simp [hls, hset'])
  repeat' first
   | refine v_seq ?_ | refine v_block ?_ | refine v_ret ?_ | refine v_skip ?_ | (refine v_exit ?_; repeat' first | refine xB_eq ?_ | refine xB_ne rfl ?_)
   | ((first | refine rgA fun K hK => ?_ | refine rgB rfl fun K hK => ?_ | refine rgC rfl fun K hK => ?_); simp only [go_sem,simprocAttr,hd,hls,hset_at,hil,htk,hnl,e1,e2])
   | (simp (disch := first | omega | rfl | (simp only [lnn]; omega)) only [spl])
   | (refine hK _ ?_; clear hK K)
   | (refine gdB_intro (fun h => ?_) (fun h => ?_) <;> simp only [go_sem,simprocAttr,h,hd,hls,hset_at,hil,htk,hnl,e1,e2] <;> (have h' := h; try simp only [bl] at h'))
   | (refine v_cond rfl (fun h => ?_) (fun h => ?_) <;> first | (exact Bool.noConfusion h) | (have h' := h; try simp only [bl] at h'))
   | (refine r_ret ?_; simp only [resL, resA, Tryz.f23, lk_cons', lk_nil', Nat.reduceBEq]; first | exact ⟨rfl, Sb.nil _, rfl⟩ | refine ⟨rfl, sbt ?_, rfl⟩ | refine ⟨rfl, Sb.of_eq ?_, rfl⟩)
   | (refine And.intro (by first | exact True.intro | omega | rfl | exact Nat.le_of_ble_eq_true rfl | (simp only [lnn]; omega) | exact List.forall_mem_nil _ | (refine List.forall_mem_cons.2 ⟨⟨_, rfl⟩, ?_⟩; repeat' first | exact List.forall_mem_nil _ | refine List.forall_mem_cons.2 ⟨⟨_, rfl⟩, ?_⟩)) ?_)
   | (refine hso _ (fun bn hbp hst => ?_); simp only [cmK, go_sem,simprocAttr,hset_at,hset_hset])
   | fail
  have hbl : bn.length = ts.length := by have := hbp.length_eq; simpa using this
  have hbm : ∀ i, i ∈ bn ↔ i < ts.length := fun i => by rw [hbp.mem_iff, List.mem_range]
  have hnbl : (natI bn).length = ts.length := by rw [natI_len, hbl]
  have hst' : ∀ (p q : Nat) (i j : Nat), p < q → bn[p]? = some i → bn[q]? = some j → nmLt ((fun i => (gt7 ts i).nm) j) ((fun i => (gt7 ts i).nm) i) = false := hst
  have hrb := fun k hk i => rst_bound hdp (by decide) (k := k) hk i
  have hKB : (N : Int) * (20000000 + c) ≤ 20 * 21000000 := Int.mul_le_mul (by omega) (by omega) (by omega) (by omega)
  have hdRl := doneR_len ts c N G N
  generalize hnm : (fun i => (gt7 ts i).nm) = nm at *
  refine v_loop (T := Nat × Nat × Nat) (fun x => ⟨[(5, .pt [tsl ts, iv n, iv g, iv c, .sl 1 N (devC ts G N)] 0), (7, .pt [.sl 1 N (doneR ts c N G N)] 0), (8, iv (total7 (dvn ts G) c N ts.length)), (9, isl (natI bn)), (11, .ls x.2.1 0 1 x.1), (12, iv (leftA (dvn ts G) c N ts.length nm x.1)), (13, iv (befA (dvn ts G) c N ts.length nm x.1)), (47, .sl 1 N (doneR ts c N G N)), (48, iv N), (49, iv x.1)], hls [(x.2.1, strs (namA (dvn ts G) c N ts.length nm x.1))], x.2.2, (109, 0, 0)⟩) (fun x => x.1 ≤ N ∧ x.2.1 < x.2.2) (fun x => N - x.1) (0, 3 + ts.length, 4 + ts.length) ⟨by (first | omega | (dsimp only; omega)), by (first | omega | (dsimp only; omega))⟩ ?_ ?_
  · have e3 : (2 + ts.length == 3 + ts.length) = false := beq_ne (by omega)
    have e3' : (3 + ts.length == 2 + ts.length) = false := beq_ne (by omega)
    refine (ent_freezeH (2 + ts.length) (c := ints (natI bn)) (by simp [hls, hset', e3, e3']) (ints_plain _)).trans (ent_rows [(3 + ts.length, strs (namA (dvn ts G) c N ts.length nm 0))] ?_ rfl ⟨⟨?_, by (first | omega | (dsimp only; omega))⟩, True.intro⟩ (by (first | omega | (dsimp only; omega))))
    · have hfz9 : AV.fz (2 + ts.length) (ints (natI bn)) (.ls (2 + ts.length) 0 1 ts.length) = isl (natI bn) := fz_isl (by omega)
      have hfz11 : AV.fz (2 + ts.length) (ints (natI bn)) (.ls (3 + ts.length) 0 1 0) = .ls (3 + ts.length) 0 1 0 := by simp [AV.fz, e3]
      simp only [fzF, hfz9, hfz11]
      simp only [AV.fz, isl, iv, cond_false]
      (repeat' first | exact trivial | refine ⟨?_, ?_⟩ | rfl)
    · simp [hfz, hls, hset', e3, namA, strs]
  rintro ⟨k, r, Y⟩ ⟨hk, hrY⟩
  dsimp only at hk hrY ⊢
  have y2 : (Y == r) = false := beq_ne (by omega)
  have y3 : (r == Y) = false := beq_ne (by omega)
  have hsl : (strs (namA (dvn ts G) c N ts.length nm k)).length = k := by rw [strs_len, namA_len]
  have hso1 := strs_one (namA (dvn ts G) c N ts.length nm k)
  have htk : List.take k (strs (namA (dvn ts G) c N ts.length nm k)) = strs (namA (dvn ts G) c N ts.length nm k) := List.take_of_length_le (by omega)
  by_cases hk2 : k < N
  · have hd : decide ((k : Int) < N) = true := decide_eq_true (by omega)
    have b1 : (doneR ts c N G N)[((k : Nat) : Int).toNat * 1]? = some (isl (rstRow ts c N G k)) := by
      rw [Int.toNat_natCast, Nat.mul_one]
      simp only [doneR, List.getElem?_map, List.getElem?_range hk2, Option.map_some, Nat.sub_self, Nat.zero_add]
    have b1' : (doneR ts c N G N)[((k : Nat) : Int).toNat]? = some (isl (rstRow ts c N G k)) := by rw [Nat.mul_one] at b1; exact b1
    have hl7 := leftA_eq hdp hk2
    have hRl := rstRow_len ts c N G k
    repeat' first
     | refine v_seq ?_ | refine v_block ?_ | refine v_ret ?_ | refine v_skip ?_ | (refine v_exit ?_; repeat' first | refine xB_eq ?_ | refine xB_ne rfl ?_)
     | ((first | refine rgA fun K hK => ?_ | refine rgB rfl fun K hK => ?_ | refine rgC rfl fun K hK => ?_); simp only [go_sem,simprocAttr,hd,hls,hdRl,b1,b1'])
     | (simp (disch := first | omega | rfl | (simp only [lnn]; omega)) only [spl])
     | (refine hK _ ?_; clear hK K)
     | (refine gdB_intro (fun h => ?_) (fun h => ?_) <;> simp only [go_sem,simprocAttr,h,hd,hls,hdRl,b1,b1'] <;> (have h' := h; try simp only [bl] at h'))
     | (refine v_cond rfl (fun h => ?_) (fun h => ?_) <;> first | (exact Bool.noConfusion h) | (have h' := h; try simp only [bl] at h'))
     | (refine r_ret ?_; simp only [resL, resA, Tryz.f23, lk_cons', lk_nil', Nat.reduceBEq]; first | exact ⟨rfl, Sb.nil _, rfl⟩ | refine ⟨rfl, sbt ?_, rfl⟩ | refine ⟨rfl, Sb.of_eq ?_, rfl⟩)
     | (refine And.intro (by first | exact True.intro | omega | rfl | exact Nat.le_of_ble_eq_true rfl | (simp only [lnn]; omega) | exact List.forall_mem_nil _ | (refine List.forall_mem_cons.2 ⟨⟨_, rfl⟩, ?_⟩; repeat' first | exact List.forall_mem_nil _ | refine List.forall_mem_cons.2 ⟨⟨_, rfl⟩, ?_⟩)) ?_)
     | (simp only [go_sem,simprocAttr,hdRl,b1,b1',isl])
     | fail
    refine v_loop (T := Nat) (fun p => ⟨[(5, .pt [tsl ts, iv n, iv g, iv c, .sl 1 N (devC ts G N)] 0), (7, .pt [.sl 1 N (doneR ts c N G N)] 0), (8, iv (total7 (dvn ts G) c N ts.length)), (9, isl (natI bn)), (11, .ls r 0 1 k), (12, iv (leftA (dvn ts G) c N ts.length nm k)), (13, iv (befA (dvn ts G) c N ts.length nm k)), (14, iv k), (15, isl (rstRow ts c N G k)), (47, .sl 1 N (doneR ts c N G N)), (48, iv N), (49, iv k), (54, isl (natI bn)), (55, iv (natI bn).length), (56, iv p)], hls [(r, strs (namA (dvn ts G) c N ts.length nm k))], Y, (109, 0, 0)⟩) (fun p => p ≤ ts.length ∧ ∀ (q i : Nat), q < p → bn[q]? = some i → ¬(dvn ts G k i ≠ -1 ∧ val7 (dvn ts G) c N ts.length nm k i = left7 (dvn ts G) c N ts.length nm k)) (fun p => ts.length - p) 0 ⟨by omega, fun q i hq => absurd hq (by omega)⟩ ?_ ?_
    · exact ent_rows _ (by (repeat' first | exact trivial | refine ⟨?_, ?_⟩ | rfl)) rfl ⟨⟨hset_at _ _ _, by (first | omega | (dsimp only; omega))⟩, True.intro⟩ (Nat.le_refl _)
    rintro p ⟨hp, hinv⟩
    by_cases hp2 : p < ts.length
    · have hd2 : decide ((p : Int) < (natI bn).length) = true := decide_eq_true (by omega)
      obtain ⟨j, hj⟩ : ∃ j, bn[p]? = some j := ⟨bn[p]'(by omega), List.getElem?_eq_getElem _⟩
      have hjT : j < ts.length := (hbm j).1 (List.mem_of_getElem? hj)
      have hgp : gi (natI bn) (p : Nat) = (j : Nat) := by
        rw [gi_natI (by omega)]
        have hj2 := hj
        rw [List.getElem?_eq_getElem (by omega), Option.some.injEq] at hj2
        rw [hj2]
      have hgr : gi (rstRow ts c N G k) (j : Nat) = rst (dvn ts G) c N ts.length k j := gi_rstRow hjT
      have hgd : gi (devRow ts G k) (j : Nat) = dvn ts G k j := gi_devRow hjT
      have hdl := devRow_len ts G k
      have hrb1 := hrb k hk2 j
      have hdr := hdp.rng k j
      have hok := okR_iff hdp hk2 j
      have d1 : (devC ts G N)[((k : Nat) : Int).toNat * 1]? = some (isl (devRow ts G k)) := by rw [Int.toNat_natCast, Nat.mul_one]; exact devC_at (by omega)
      have d1' : (devC ts G N)[((k : Nat) : Int).toNat]? = some (isl (devRow ts G k)) := devC_at (by omega)
      have d0 : (devC ts G N)[0]? = some (isl (devRow ts G 0)) := devC_at (by omega)
      have t1 : (tcs ts)[((j : Nat) : Int).toNat * 3]? = some (.v (.string (gt7 ts j).nm)) := tcs_0 hjT
      rw [hl7]
      generalize hLV : left7 (dvn ts G) c N ts.length nm k = L at *
      have hnj : (gt7 ts j).nm = nm j := congrFun hnm j
      rw [hnj] at t1
      have hstep : ∀ b : Int, val7 (dvn ts G) c N ts.length nm k j = b + rst (dvn ts G) c N ts.length k j → (gi (rstRow ts c N G k) (j : Nat) = -1 ∨ ¬b + gi (rstRow ts c N G k) (j : Nat) = L) →
          ∀ (q i : Nat), q < p + 1 → bn[q]? = some i → ¬(dvn ts G k i ≠ -1 ∧ val7 (dvn ts G) c N ts.length nm k i = L) := by
        rintro b hb hor q i hq hqi ⟨h1, h2⟩
        by_cases hqp : q < p
        · exact hinv q i hqp hqi ⟨h1, h2⟩
        · obtain rfl : q = p := by omega
          rw [hj] at hqi
          cases hqi
          have h3 := hok.2 h1
          unfold okR at h3
          have h4 : rst (dvn ts G) c N ts.length k j ≠ -1 := by simpa using h3
          omega
      have hpick : ∀ b : Int, val7 (dvn ts G) c N ts.length nm k j = b + rst (dvn ts G) c N ts.length k j → ¬gi (rstRow ts c N G k) (j : Nat) = -1 → b + gi (rstRow ts c N G k) (j : Nat) = L →
          leftA (dvn ts G) c N ts.length nm (k + 1) = gi (rstRow ts c N G k) (j : Nat) - dvn ts G k j ∧ befA (dvn ts G) c N ts.length nm (k + 1) = (j : Nat) ∧ namA (dvn ts G) c N ts.length nm k ++ [nm j] = namA (dvn ts G) c N ts.length nm (k + 1) := by
        intro b hb h1 h2
        have h4 : dvn ts G k j ≠ -1 := hok.1 (by unfold okR; rw [← hgr]; simpa using h1)
        have h5 := pickA hdp hk2 hbp hst' hj h4 (by omega) (by rw [hLV]; exact hinv)
        rw [← namA_succ, h5]
        refine ⟨?_, ?_, rfl⟩
        · rw [show leftA (dvn ts G) c N ts.length nm (k + 1) = rst (dvn ts G) c N ts.length k (ch7 (dvn ts G) c N ts.length nm k) - dvn ts G k (ch7 (dvn ts G) c N ts.length nm k) from rfl, h5, hgr]
        · rw [show befA (dvn ts G) c N ts.length nm (k + 1) = (ch7 (dvn ts G) c N ts.length nm k : Nat) from rfl, h5]
      have hcj := fun i => chg_bound hcb.1 i j
      rcases Nat.eq_zero_or_pos k with hk0 | hk0
      · have hbf : befA (dvn ts G) c N ts.length nm k = -1 := by rw [hk0]; rfl
        have hval : val7 (dvn ts G) c N ts.length nm k j = 0 + rst (dvn ts G) c N ts.length k j := by rw [hk0, Int.zero_add]; rfl
        have hbb : ((-1 : Int) != -1) = false := rfl
        rw [hbf]
        clear hbf
        repeat' first
         | refine v_seq ?_ | refine v_block ?_ | refine v_ret ?_ | refine v_skip ?_ | (refine v_exit ?_; repeat' first | refine xB_eq ?_ | refine xB_ne rfl ?_)
         | ((first | refine rgA fun K hK => ?_ | refine rgB rfl fun K hK => ?_ | refine rgC rfl fun K hK => ?_); simp only [go_sem,simprocAttr,hd2,hbb,hls,hgp,hgd,d1,d1',t1,hset_at,hset_hset,hsl,hso1,htk,y2,y3])
         | (simp (disch := first | omega | rfl | (simp only [lnn]; omega)) only [spl])
         | (refine hK _ ?_; clear hK K)
         | (refine gdB_intro (fun h => ?_) (fun h => ?_) <;> simp only [go_sem,simprocAttr,h,hd2,hbb,hls,hgp,hgd,d1,d1',t1,hset_at,hset_hset,hsl,hso1,htk,y2,y3] <;> (have h' := h; try simp only [bl] at h'))
         | (refine v_cond rfl (fun h => ?_) (fun h => ?_) <;> first | (exact Bool.noConfusion h) | (have h' := h; try simp only [bl] at h'))
         | (refine r_ret ?_; simp only [resL, resA, Tryz.f23, lk_cons', lk_nil', Nat.reduceBEq]; first | exact ⟨rfl, Sb.nil _, rfl⟩ | refine ⟨rfl, sbt ?_, rfl⟩ | refine ⟨rfl, Sb.of_eq ?_, rfl⟩)
         | (refine And.intro (by first | exact True.intro | omega | rfl | exact Nat.le_of_ble_eq_true rfl | (simp only [lnn]; omega) | exact List.forall_mem_nil _ | (refine List.forall_mem_cons.2 ⟨⟨_, rfl⟩, ?_⟩; repeat' first | exact List.forall_mem_nil _ | refine List.forall_mem_cons.2 ⟨⟨_, rfl⟩, ?_⟩)) ?_)
         | (simp only [go_sem,simprocAttr,d1,d1',t1,hsl,hso1,htk,isl,tsl,hset_at,hset_hset,y2,y3])
         | (simp only [htk])
         | fail
        · refine ⟨p + 1, ?_, ⟨by omega, hstep _ hval (.inl (by assumption))⟩, by omega⟩
          exact ent_rows _ (by (repeat' first | exact trivial | refine ⟨?_, ?_⟩ | rfl)) rfl ⟨⟨hset_at _ _ _, by (first | omega | (dsimp only; omega))⟩, True.intro⟩ (Nat.le_refl _)
        · refine ⟨p + 1, ?_, ⟨by omega, hstep _ hval (.inr (by assumption))⟩, by omega⟩
          exact ent_rows _ (by (repeat' first | exact trivial | refine ⟨?_, ?_⟩ | rfl)) rfl ⟨⟨hset_at _ _ _, by (first | omega | (dsimp only; omega))⟩, True.intro⟩ (Nat.le_refl _)
        · obtain ⟨p1, p2, p3⟩ := hpick _ hval (by assumption) (by assumption)
          refine ⟨(k + 1, Y, Y + 1), ?_, ⟨by (first | omega | (dsimp only; omega)), by (first | omega | (dsimp only; omega))⟩, by (first | omega | (dsimp only; omega))⟩
          dsimp only
          rw [p1, p2, ← p3, ← strs_snoc]
          refine ent_rows _ (by (repeat' first | exact trivial | refine ⟨?_, ?_⟩ | rfl)) rfl ⟨⟨?_, ?_⟩, True.intro⟩ (Nat.le_refl _)
          · exact hset_at _ _ _
          · (first | omega | (dsimp only; omega))
      · obtain ⟨k', hk'⟩ : ∃ k', k = k' + 1 := ⟨k - 1, by omega⟩
        have hbf : befA (dvn ts G) c N ts.length nm k = (ch7 (dvn ts G) c N ts.length nm k' : Nat) := by rw [hk']; rfl
        have hval : val7 (dvn ts G) c N ts.length nm k j = chg c (ch7 (dvn ts G) c N ts.length nm k') j + rst (dvn ts G) c N ts.length k j := by rw [hk']; rfl
        rw [hbf]
        clear hbf
        generalize ch7 (dvn ts G) c N ts.length nm k' = b at *
        have hbb : (((b : Nat) : Int) != -1) = true := by simp
        have hcb2 := hcj b
        have kch := c_change ts n g c G N b j
        unfold tkX at kch
        repeat' first
         | refine v_seq ?_ | refine v_block ?_ | refine v_ret ?_ | refine v_skip ?_ | (refine v_exit ?_; repeat' first | refine xB_eq ?_ | refine xB_ne rfl ?_)
         | ((first | refine rgA fun K hK => ?_ | refine rgB rfl fun K hK => ?_ | refine rgC rfl fun K hK => ?_); simp only [go_sem,simprocAttr,hd2,hbb,hls,hgp,hgd,d1,d1',t1,hset_at,hset_hset,hsl,hso1,htk,y2,y3])
         | (simp (disch := first | omega | rfl | (simp only [lnn]; omega)) only [spl])
         | (refine hK _ ?_; clear hK K)
         | (refine gdB_intro (fun h => ?_) (fun h => ?_) <;> simp only [go_sem,simprocAttr,h,hd2,hbb,hls,hgp,hgd,d1,d1',t1,hset_at,hset_hset,hsl,hso1,htk,y2,y3] <;> (have h' := h; try simp only [bl] at h'))
         | (refine v_cond rfl (fun h => ?_) (fun h => ?_) <;> first | (exact Bool.noConfusion h) | (have h' := h; try simp only [bl] at h'))
         | (refine r_ret ?_; simp only [resL, resA, Tryz.f23, lk_cons', lk_nil', Nat.reduceBEq]; first | exact ⟨rfl, Sb.nil _, rfl⟩ | refine ⟨rfl, sbt ?_, rfl⟩ | refine ⟨rfl, Sb.of_eq ?_, rfl⟩)
         | (refine And.intro (by first | exact True.intro | omega | rfl | exact Nat.le_of_ble_eq_true rfl | (simp only [lnn]; omega) | exact List.forall_mem_nil _ | (refine List.forall_mem_cons.2 ⟨⟨_, rfl⟩, ?_⟩; repeat' first | exact List.forall_mem_nil _ | refine List.forall_mem_cons.2 ⟨⟨_, rfl⟩, ?_⟩)) ?_)
         | ((first | refine call_pure' (kch) rfl ?_); simp only [go_sem,simprocAttr,hd2,hbb,hls,hgp,hgd,d1,d1',t1,hset_at,hset_hset,hsl,hso1,htk,y2,y3])
         | (simp only [go_sem,simprocAttr,d1,d1',t1,hsl,hso1,htk,isl,tsl,hset_at,hset_hset,y2,y3])
         | (simp only [htk])
         | fail
        · refine ⟨p + 1, ?_, ⟨by omega, hstep _ hval (.inl (by assumption))⟩, by omega⟩
          exact ent_rows _ (by (repeat' first | exact trivial | refine ⟨?_, ?_⟩ | rfl)) rfl ⟨⟨hset_at _ _ _, by (first | omega | (dsimp only; omega))⟩, True.intro⟩ (Nat.le_refl _)
        · refine ⟨p + 1, ?_, ⟨by omega, hstep _ hval (.inr (by assumption))⟩, by omega⟩
          exact ent_rows _ (by (repeat' first | exact trivial | refine ⟨?_, ?_⟩ | rfl)) rfl ⟨⟨hset_at _ _ _, by (first | omega | (dsimp only; omega))⟩, True.intro⟩ (Nat.le_refl _)
        · obtain ⟨p1, p2, p3⟩ := hpick _ hval (by assumption) (by assumption)
          refine ⟨(k + 1, Y, Y + 1), ?_, ⟨by (first | omega | (dsimp only; omega)), by (first | omega | (dsimp only; omega))⟩, by (first | omega | (dsimp only; omega))⟩
          dsimp only
          rw [p1, p2, ← p3, ← strs_snoc]
          refine ent_rows _ (by (repeat' first | exact trivial | refine ⟨?_, ?_⟩ | rfl)) rfl ⟨⟨?_, ?_⟩, True.intro⟩ (Nat.le_refl _)
          · exact hset_at _ _ _
          · (first | omega | (dsimp only; omega))
    · exfalso
      obtain ⟨c1, c2, _⟩ := ch7_ok hdp hk2
      obtain ⟨q, hq⟩ := List.mem_iff_getElem?.1 ((hbm _).2 c1)
      have hq2 : q < bn.length := (List.getElem?_eq_some_iff.1 hq).1
      exact hinv q _ (by omega) hq ⟨c2, rfl⟩
  · obtain rfl : k = N := by omega
    have hd : decide ((k : Int) < k) = false := decide_eq_false (by omega)
    repeat' first
     | refine v_seq ?_ | refine v_block ?_ | refine v_ret ?_ | refine v_skip ?_ | (refine v_exit ?_; repeat' first | refine xB_eq ?_ | refine xB_ne rfl ?_)
     | ((first | refine rgA fun K hK => ?_ | refine rgB rfl fun K hK => ?_ | refine rgC rfl fun K hK => ?_); simp only [go_sem,simprocAttr,hd,hls])
     | (simp (disch := first | omega | rfl | (simp only [lnn]; omega)) only [spl])
     | (refine hK _ ?_; clear hK K)
     | (refine gdB_intro (fun h => ?_) (fun h => ?_) <;> simp only [go_sem,simprocAttr,h,hd,hls] <;> (have h' := h; try simp only [bl] at h'))
     | (refine v_cond rfl (fun h => ?_) (fun h => ?_) <;> first | (exact Bool.noConfusion h) | (have h' := h; try simp only [bl] at h'))
     | (refine r_ret ?_; simp only [resL, resA, Tryz.f23, lk_cons', lk_nil', Nat.reduceBEq]; first | exact ⟨rfl, Sb.nil _, rfl⟩ | refine ⟨rfl, sbt ?_, rfl⟩ | refine ⟨rfl, Sb.of_eq ?_, rfl⟩)
     | (refine And.intro (by first | exact True.intro | omega | rfl | exact Nat.le_of_ble_eq_true rfl | (simp only [lnn]; omega) | exact List.forall_mem_nil _ | (refine List.forall_mem_cons.2 ⟨⟨_, rfl⟩, ?_⟩; repeat' first | exact List.forall_mem_nil _ | refine List.forall_mem_cons.2 ⟨⟨_, rfl⟩, ?_⟩)) ?_)
     | fail
    refine r_freeze r (hset_at emp r _) (strs_plain _) (r_ret ?_)
    have hle : 0 + k * 1 ≤ (strs (namA (dvn ts G) c k ts.length nm k)).length := by rw [hsl]; omega
    have htk1 : List.take (k * 1) (List.drop 0 (strs (namA (dvn ts G) c k ts.length nm k))) = strs (namA (dvn ts G) c k ts.length nm k) := List.take_of_length_le (by rw [List.drop_zero, hsl]; omega)
    simp only [resL, resA, Tryz.f23, fzF, lk_cons', lk_nil', Nat.reduceBEq, AV.fz, beq_self_eq_true, cond_true, if_pos hle, htk1]
    subst hnm
    have hpl : ∀ a b : Int, (AV.tu [AV.sl 1 k (strs (namA (dvn ts G) c k ts.length (fun i => (gt7 ts i).nm) k)), iv a, iv b]).plain = true := fun a b => by simp [plainL, AV.plain, strs_plain]
    refine ⟨hpl _ _, Sb.of_eq ?_, by simp [plainL, AV.plain, strs_plain]⟩
    unfold ssl namA
    simp only [List.length_map, List.length_range]
end Go.Proofs.YtabmhfmglhjmjaaGreatDoor
set_option maxRecDepth 100000
set_option maxHeartbeats 4000000
set_option linter.unusedSimpArgs false
set_option linter.unusedVariables false
set_option linter.unusedSectionVars false
namespace Go.Proofs.YtabmhfmglhjmjaaGreatDoor
open Go.Ab Go.RowKit
variable [Dr]
def gs7 (l : List ByteArray) (k : Nat) : ByteArray := l.getD k ⟨#[]⟩
def cIx (ts : List Tf) (l : List ByteArray) (k : Nat) : Int := idxP (fun j => nmEq (gt7 ts j).nm (gs7 l k)) ts.length
def cEr (ts : List Tf) (G : Nat) (l : List ByteArray) (k : Nat) : Int := bif decide (cIx ts l k < 0) then 6 else bif dvn ts G k (cIx ts l k).toNat == -1 then 14 else 0
def cErTo (ts : List Tf) (G : Nat) (l : List ByteArray) : Nat → Int
  | 0 => 0
  | k + 1 => bif cErTo ts G l k != 0 then cErTo ts G l k else cEr ts G l k
def cIxs (ts : List Tf) (l : List ByteArray) (k : Nat) : List Int := (List.range k).map (cIx ts l)
theorem cIxs_len (ts : List Tf) (l : List ByteArray) (k : Nat) : (cIxs ts l k).length = k := by simp [cIxs]
theorem cIxs_succ (ts : List Tf) (l : List ByteArray) (k : Nat) : cIxs ts l k ++ [cIx ts l k] = cIxs ts l (k + 1) := by simp [cIxs, List.range_succ]
theorem gi_cIxs {ts : List Tf} {l : List ByteArray} {m k : Nat} (h : k < m) : gi (cIxs ts l m) (k : Nat) = cIx ts l k := by simp [gi, cIxs, h]
def cErr (ts : List Tf) (G m : Nat) (l : List ByteArray) : Int := bif l.length != m then 10 else cErTo ts G l m
theorem cErTo_stop {ts : List Tf} {G : Nat} {l : List ByteArray} {k : Nat} (h : cErTo ts G l k = 0) (he : cEr ts G l k ≠ 0) : ∀ m, k < m → cErTo ts G l m = cEr ts G l k
  | 0, hm => absurd hm (by omega)
  | m + 1, hm => by
    by_cases hk : k = m
    · subst hk; rw [cErTo, h]; rfl
    · have := cErTo_stop h he m (by omega)
      rw [cErTo, this, show (cEr ts G l k != 0) = true by simpa using he]; rfl
theorem strs_at {l : List ByteArray} {k : Nat} (h : k < l.length) : (strs l)[k]? = some (.v (.string (gs7 l k))) := by
  unfold strs gs7
  rw [List.getElem?_map, List.getElem?_eq_getElem h, List.getD_eq_getElem?_getD, List.getElem?_eq_getElem h]; rfl
theorem c_chosen (ts : List Tf) (n g c : Int) (G m : Nat) (l : List ByteArray) (hT : Len ts.length) (hm : Len m) (hl : Len l.length) :
    Pure Tryz.prog 106 [tkX ts n g c G m, ssl l] (.tu [isl (bif cErr ts G m l == 0 then cIxs ts l m else []), iv (cErr ts G m l)]) := by
  unfold Len at hm hl
  have hT' := hT
  unfold Len at hT'
  have hdC := devC_len ts G m
  have hsl := strs_len l
  have hTl := tcs_len ts
  refine p_intro evOk [6] Tryz.func106 rfl Tryz.call106 ?_
  cases h0 : l.length != m
  · obtain rfl : l.length = m := by simpa using h0
    have hce : cErr ts G l.length l = cErTo ts G l l.length := by unfold cErr; rw [h0]; rfl
    have hne : ((l.length : Int) != (l.length : Nat)) = false := by simp
    rw [hce]
    repeat' first
     | refine v_seq ?_ | refine v_block ?_ | refine v_ret ?_ | refine v_skip ?_ | (refine v_exit ?_; repeat' first | refine xB_eq ?_ | refine xB_ne rfl ?_)
     | ((first | refine rgA fun K hK => ?_ | refine rgB rfl fun K hK => ?_ | refine rgC rfl fun K hK => ?_); simp only [go_sem,simprocAttr,hne,hdC])
     | (simp (disch := first | omega | rfl | (simp only [lnn]; omega)) only [spl])
     | (refine hK _ ?_; clear hK K)
     | (refine gdB_intro (fun h => ?_) (fun h => ?_) <;> simp only [go_sem,simprocAttr,h,hne,hdC] <;> (have h' := h; try simp only [bl] at h'))
     | (refine v_cond rfl (fun h => ?_) (fun h => ?_) <;> first | (exact Bool.noConfusion h) | (have h' := h; try simp only [bl] at h'))
     | (refine r_ret ?_; simp only [resL, resA, Tryz.f106, lk_cons', lk_nil', Nat.reduceBEq]; first | exact ⟨rfl, Sb.nil _, rfl⟩ | refine ⟨rfl, sbt ?_, rfl⟩ | refine ⟨rfl, Sb.of_eq ?_, rfl⟩)
     | (refine And.intro (by first | exact True.intro | omega | rfl | exact Nat.le_of_ble_eq_true rfl | (simp only [lnn]; omega) | exact List.forall_mem_nil _ | (refine List.forall_mem_cons.2 ⟨⟨_, rfl⟩, ?_⟩; repeat' first | exact List.forall_mem_nil _ | refine List.forall_mem_cons.2 ⟨⟨_, rfl⟩, ?_⟩)) ?_)
     | fail
    refine v_loop (T := Nat) (fun k => ⟨[(1, ssl l), (2, .pt [tsl ts, iv n, iv g, iv c, .sl 1 l.length (devC ts G l.length)] 0), (6, .ls k 0 1 k), (16, ssl l), (17, iv l.length), (18, iv k)], hls [(k, ints (cIxs ts l k))], k + 1, (45, 0, 0)⟩) (fun k => k ≤ l.length ∧ cErTo ts G l k = 0) (fun k => l.length - k) 0 ⟨by omega, rfl⟩ ?_ ?_
    · exact ent_rows [(0, ints (cIxs ts l 0))] (by (repeat' first | exact trivial | refine ⟨?_, ?_⟩ | rfl)) rfl ⟨⟨by simp [hset', hls, cIxs, ints], by (first | omega | (dsimp only; omega))⟩, True.intro⟩ (by (first | omega | (dsimp only; omega)))
    rintro k ⟨hk, hE⟩
    have hil : (ints (cIxs ts l k)).length = k := by rw [ints_length, cIxs_len]
    have htk : List.take k (ints (cIxs ts l k)) = ints (cIxs ts l k) := List.take_of_length_le (by omega)
    have htk2 : List.take k (cIxs ts l k) = cIxs ts l k := List.take_of_length_le (by rw [cIxs_len]; omega)
    have hcl := cIxs_len ts l k
    have e1 : (k + 1 == k) = false := beq_ne (by omega)
    by_cases hk2 : k < l.length
    · have hd : decide ((k : Int) < l.length) = true := decide_eq_true (by omega)
      have s1 : (strs l)[((k : Nat) : Int).toNat * 1]? = some (.v (.string (gs7 l k))) := by rw [Int.toNat_natCast, Nat.mul_one]; exact strs_at hk2
      have s1' : (strs l)[((k : Nat) : Int).toNat]? = some (.v (.string (gs7 l k))) := strs_at hk2
      have d1 : (devC ts G l.length)[((k : Nat) : Int).toNat * 1]? = some (isl (devRow ts G k)) := by rw [Int.toNat_natCast, Nat.mul_one]; exact devC_at (by omega)
      have d1' : (devC ts G l.length)[((k : Nat) : Int).toNat]? = some (isl (devRow ts G k)) := devC_at (by omega)
      have hdl := devRow_len ts G k
      have hsu : cErTo ts G l (k + 1) = cEr ts G l k := by rw [cErTo, hE]; rfl
      have ki := c_index ts (gs7 l k) hT
      have hcx : cIx ts l k = idxP (fun j => nmEq (gt7 ts j).nm (gs7 l k)) ts.length := rfl
      rw [← hcx] at ki
      rcases idxP_inv (p := fun j => nmEq (gt7 ts j).nm (gs7 l k)) (n := ts.length) with ⟨h1, _⟩ | ⟨i, h1, h2, _, _⟩
      · have hx : cIx ts l k = -1 := h1
        rw [hx] at ki
        have hce2 : cEr ts G l k = 6 := by unfold cEr; rw [hx]; rfl
        have hb : decide ((-1 : Int) < 0) = true := rfl
        rw [cErTo_stop hE (by rw [hce2]; decide) _ hk2, hce2]
        repeat' first
         | refine v_seq ?_ | refine v_block ?_ | refine v_ret ?_ | refine v_skip ?_ | (refine v_exit ?_; repeat' first | refine xB_eq ?_ | refine xB_ne rfl ?_)
         | ((first | refine rgA fun K hK => ?_ | refine rgB rfl fun K hK => ?_ | refine rgC rfl fun K hK => ?_); simp only [go_sem,simprocAttr,hd,hb,hls,s1,s1',hsl])
         | (simp (disch := first | omega | rfl | (simp only [lnn]; omega)) only [spl])
         | (refine hK _ ?_; clear hK K)
         | (refine gdB_intro (fun h => ?_) (fun h => ?_) <;> simp only [go_sem,simprocAttr,h,hd,hb,hls,s1,s1',hsl] <;> (have h' := h; try simp only [bl] at h'))
         | (refine v_cond rfl (fun h => ?_) (fun h => ?_) <;> first | (exact Bool.noConfusion h) | (have h' := h; try simp only [bl] at h'))
         | (refine r_ret ?_; simp only [resL, resA, Tryz.f106, lk_cons', lk_nil', Nat.reduceBEq]; first | exact ⟨rfl, Sb.nil _, rfl⟩ | refine ⟨rfl, sbt ?_, rfl⟩ | refine ⟨rfl, Sb.of_eq ?_, rfl⟩)
         | (refine And.intro (by first | exact True.intro | omega | rfl | exact Nat.le_of_ble_eq_true rfl | (simp only [lnn]; omega) | exact List.forall_mem_nil _ | (refine List.forall_mem_cons.2 ⟨⟨_, rfl⟩, ?_⟩; repeat' first | exact List.forall_mem_nil _ | refine List.forall_mem_cons.2 ⟨⟨_, rfl⟩, ?_⟩)) ?_)
         | ((first | refine call_pure' (ki) rfl ?_); simp only [go_sem,simprocAttr,hd,hb,hls,s1,s1',hsl])
         | (simp only [go_sem,simprocAttr,s1,s1',hsl])
         | fail
        all_goals rfl
      · have hx : cIx ts l k = (i : Nat) := h1
        rw [hx] at ki
        have hb : decide ((i : Int) < 0) = false := decide_eq_false (by omega)
        have hgd : gi (devRow ts G k) (i : Nat) = dvn ts G k i := gi_devRow h2
        have hce2 : cEr ts G l k = bif dvn ts G k i == -1 then 14 else 0 := by unfold cEr; rw [hx, hb, cond_false, Int.toNat_natCast]
        cases hz : dvn ts G k i == -1
        · rw [hz, cond_false] at hce2
          repeat' first
           | refine v_seq ?_ | refine v_block ?_ | refine v_ret ?_ | refine v_skip ?_ | (refine v_exit ?_; repeat' first | refine xB_eq ?_ | refine xB_ne rfl ?_)
           | ((first | refine rgA fun K hK => ?_ | refine rgB rfl fun K hK => ?_ | refine rgC rfl fun K hK => ?_); simp only [go_sem,simprocAttr,hd,hb,hls,s1,s1',hsl,d1,d1',hdC,hgd,hz,hil,hcl,htk,e1,hset_at])
           | (simp (disch := first | omega | rfl | (simp only [lnn]; omega)) only [spl])
           | (refine hK _ ?_; clear hK K)
           | (refine gdB_intro (fun h => ?_) (fun h => ?_) <;> simp only [go_sem,simprocAttr,h,hd,hb,hls,s1,s1',hsl,d1,d1',hdC,hgd,hz,hil,hcl,htk,e1,hset_at] <;> (have h' := h; try simp only [bl] at h'))
           | (refine v_cond rfl (fun h => ?_) (fun h => ?_) <;> first | (exact Bool.noConfusion h) | (have h' := h; try simp only [bl] at h'))
           | (refine r_ret ?_; simp only [resL, resA, Tryz.f106, lk_cons', lk_nil', Nat.reduceBEq]; first | exact ⟨rfl, Sb.nil _, rfl⟩ | refine ⟨rfl, sbt ?_, rfl⟩ | refine ⟨rfl, Sb.of_eq ?_, rfl⟩)
           | (refine And.intro (by first | exact True.intro | omega | rfl | exact Nat.le_of_ble_eq_true rfl | (simp only [lnn]; omega) | exact List.forall_mem_nil _ | (refine List.forall_mem_cons.2 ⟨⟨_, rfl⟩, ?_⟩; repeat' first | exact List.forall_mem_nil _ | refine List.forall_mem_cons.2 ⟨⟨_, rfl⟩, ?_⟩)) ?_)
           | ((first | refine call_pure' (ki) rfl ?_); simp only [go_sem,simprocAttr,hd,hb,hls,s1,s1',hsl,d1,d1',hdC,hgd,hz,hil,hcl,htk,e1,hset_at])
           | (simp only [go_sem,simprocAttr,s1,s1',hsl,d1,d1',hdC,isl,hil,htk])
           | (simp only [htk])
           | fail
          · exfalso
            have hz' : ¬dvn ts G k i = -1 := by simpa using hz
            omega
          refine ⟨k + 1, ?_, ⟨by omega, by rw [hsu, hce2]⟩, by omega⟩
          rw [← cIxs_succ, hx]
          exact ent_rows [(k + 1, ints (cIxs ts l k ++ [((i : Nat) : Int)]))] (by (repeat' first | exact trivial | refine ⟨?_, ?_⟩ | rfl)) rfl ⟨⟨by simp [hset', hls, htk2], by (first | omega | (dsimp only; omega))⟩, True.intro⟩ (by (first | omega | (dsimp only; omega)))
        · rw [hz, cond_true] at hce2
          rw [cErTo_stop hE (by rw [hce2]; decide) _ hk2, hce2]
          repeat' first
           | refine v_seq ?_ | refine v_block ?_ | refine v_ret ?_ | refine v_skip ?_ | (refine v_exit ?_; repeat' first | refine xB_eq ?_ | refine xB_ne rfl ?_)
           | ((first | refine rgA fun K hK => ?_ | refine rgB rfl fun K hK => ?_ | refine rgC rfl fun K hK => ?_); simp only [go_sem,simprocAttr,hd,hb,hls,s1,s1',hsl,d1,d1',hdC,hgd,hz])
           | (simp (disch := first | omega | rfl | (simp only [lnn]; omega)) only [spl])
           | (refine hK _ ?_; clear hK K)
           | (refine gdB_intro (fun h => ?_) (fun h => ?_) <;> simp only [go_sem,simprocAttr,h,hd,hb,hls,s1,s1',hsl,d1,d1',hdC,hgd,hz] <;> (have h' := h; try simp only [bl] at h'))
           | (refine v_cond rfl (fun h => ?_) (fun h => ?_) <;> first | (exact Bool.noConfusion h) | (have h' := h; try simp only [bl] at h'))
           | (refine r_ret ?_; simp only [resL, resA, Tryz.f106, lk_cons', lk_nil', Nat.reduceBEq]; first | exact ⟨rfl, Sb.nil _, rfl⟩ | refine ⟨rfl, sbt ?_, rfl⟩ | refine ⟨rfl, Sb.of_eq ?_, rfl⟩)
           | (refine And.intro (by first | exact True.intro | omega | rfl | exact Nat.le_of_ble_eq_true rfl | (simp only [lnn]; omega) | exact List.forall_mem_nil _ | (refine List.forall_mem_cons.2 ⟨⟨_, rfl⟩, ?_⟩; repeat' first | exact List.forall_mem_nil _ | refine List.forall_mem_cons.2 ⟨⟨_, rfl⟩, ?_⟩)) ?_)
           | ((first | refine call_pure' (ki) rfl ?_); simp only [go_sem,simprocAttr,hd,hb,hls,s1,s1',hsl,d1,d1',hdC,hgd,hz])
           | (simp only [go_sem,simprocAttr,s1,s1',hsl,d1,d1',hdC,isl])
           | fail
          · exfalso
            have hz' : dvn ts G k i = -1 := by simpa using hz
            omega
    · obtain rfl : k = l.length := by omega
      have hd : decide ((l.length : Int) < l.length) = false := decide_eq_false (by omega)
      rw [hE]
      repeat' first
       | refine v_seq ?_ | refine v_block ?_ | refine v_ret ?_ | refine v_skip ?_ | (refine v_exit ?_; repeat' first | refine xB_eq ?_ | refine xB_ne rfl ?_)
       | ((first | refine rgA fun K hK => ?_ | refine rgB rfl fun K hK => ?_ | refine rgC rfl fun K hK => ?_); simp only [go_sem,simprocAttr,hd,hls])
       | (simp (disch := first | omega | rfl | (simp only [lnn]; omega)) only [spl])
       | (refine hK _ ?_; clear hK K)
       | (refine gdB_intro (fun h => ?_) (fun h => ?_) <;> simp only [go_sem,simprocAttr,h,hd,hls] <;> (have h' := h; try simp only [bl] at h'))
       | (refine v_cond rfl (fun h => ?_) (fun h => ?_) <;> first | (exact Bool.noConfusion h) | (have h' := h; try simp only [bl] at h'))
       | (refine r_ret ?_; simp only [resL, resA, Tryz.f106, lk_cons', lk_nil', Nat.reduceBEq]; first | exact ⟨rfl, Sb.nil _, rfl⟩ | refine ⟨rfl, sbt ?_, rfl⟩ | refine ⟨rfl, Sb.of_eq ?_, rfl⟩)
       | (refine And.intro (by first | exact True.intro | omega | rfl | exact Nat.le_of_ble_eq_true rfl | (simp only [lnn]; omega) | exact List.forall_mem_nil _ | (refine List.forall_mem_cons.2 ⟨⟨_, rfl⟩, ?_⟩; repeat' first | exact List.forall_mem_nil _ | refine List.forall_mem_cons.2 ⟨⟨_, rfl⟩, ?_⟩)) ?_)
       | fail
      refine r_freeze l.length (hset_at emp _ _) (ints_plain _) (r_ret ?_)
      have hfz9 : AV.fz l.length (ints (cIxs ts l l.length)) (.ls l.length 0 1 l.length) = isl (cIxs ts l l.length) := fz_isl (by omega)
      simp only [resL, resA, Tryz.f106, fzF, hfz9, fz_other, lk_cons', lk_nil', Nat.reduceBEq]
      exact ⟨by simp [plainL, AV.plain, ints_plain, isl], Sb.of_eq rfl, by simp [plainL, AV.plain, ints_plain, isl]⟩
  · have hce : cErr ts G m l = 10 := by unfold cErr; rw [h0]; rfl
    have hn1 : l.length ≠ m := by simpa using h0
    have hne : ((l.length : Int) != (m : Nat)) = true := by rw [bne_iff_ne]; omega
    rw [hce]
    repeat' first
     | refine v_seq ?_ | refine v_block ?_ | refine v_ret ?_ | refine v_skip ?_ | (refine v_exit ?_; repeat' first | refine xB_eq ?_ | refine xB_ne rfl ?_)
     | ((first | refine rgA fun K hK => ?_ | refine rgB rfl fun K hK => ?_ | refine rgC rfl fun K hK => ?_); simp only [go_sem,simprocAttr,hne,hdC,hsl])
     | (simp (disch := first | omega | rfl | (simp only [lnn]; omega)) only [spl])
     | (refine hK _ ?_; clear hK K)
     | (refine gdB_intro (fun h => ?_) (fun h => ?_) <;> simp only [go_sem,simprocAttr,h,hne,hdC,hsl] <;> (have h' := h; try simp only [bl] at h'))
     | (refine v_cond rfl (fun h => ?_) (fun h => ?_) <;> first | (exact Bool.noConfusion h) | (have h' := h; try simp only [bl] at h'))
     | (refine r_ret ?_; simp only [resL, resA, Tryz.f106, lk_cons', lk_nil', Nat.reduceBEq]; first | exact ⟨rfl, Sb.nil _, rfl⟩ | refine ⟨rfl, sbt ?_, rfl⟩ | refine ⟨rfl, Sb.of_eq ?_, rfl⟩)
     | (refine And.intro (by first | exact True.intro | omega | rfl | exact Nat.le_of_ble_eq_true rfl | (simp only [lnn]; omega) | exact List.forall_mem_nil _ | (refine List.forall_mem_cons.2 ⟨⟨_, rfl⟩, ?_⟩; repeat' first | exact List.forall_mem_nil _ | refine List.forall_mem_cons.2 ⟨⟨_, rfl⟩, ?_⟩)) ?_)
     | fail
    all_goals rfl
end Go.Proofs.YtabmhfmglhjmjaaGreatDoor

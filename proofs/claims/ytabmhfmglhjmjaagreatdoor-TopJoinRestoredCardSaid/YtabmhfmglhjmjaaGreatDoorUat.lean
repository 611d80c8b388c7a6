/- Parts of the proof, put together by a program. -/
import Derived.Test.YtabmhfmglhjmjaaGreatDoorUai
import Derived.Test.YtabmhfmglhjmjaaGreatDoorUam
import Derived.Test.YtabmhfmglhjmjaaGreatDoorUan
import Derived.Test.YtabmhfmglhjmjaaGreatDoorUaq
import Derived.Test.YtabmhfmglhjmjaaGreatDoorUas
set_option maxRecDepth 100000
set_option maxHeartbeats 4000000
set_option linter.unusedSimpArgs false
set_option linter.unusedVariables false
set_option linter.unusedSectionVars false
namespace Go.Proofs.YtabmhfmglhjmjaaGreatDoor
open Go.Ab Go.RowKit
attribute [local instance] drV loV
theorem f_CopyInts (xs : List Int) (hl : Len xs.length) : Fresh Tryz.prog 21 [isl xs] 1 xs.length (ints xs) := by
  refine fresh_intro evOk [3, 5] Tryz.func21 rfl Tryz.call21 ?_
  unfold Len at hl
  repeat' first
   | refine v_seq ?_ | refine v_block ?_ | refine v_ret ?_ | refine v_skip ?_ | (refine v_exit ?_; repeat' first | refine xB_eq ?_ | refine xB_ne rfl ?_)
   | ((first | refine rgA fun K hK => ?_ | refine rgB rfl fun K hK => ?_ | refine rgC rfl fun K hK => ?_); simp only [go_sem,simprocAttr])
   | (simp (disch := first | omega | rfl | (simp only [lnn]; omega)) only [spl])
   | (refine hK _ ?_; clear hK K)
   | (refine gdB_intro (fun h => ?_) (fun h => ?_) <;> simp only [go_sem,simprocAttr,h] <;> (have h' := h; try simp only [bl] at h'))
   | (refine v_cond rfl (fun h => ?_) (fun h => ?_) <;> first | (exact Bool.noConfusion h) | (have h' := h; try simp only [bl] at h'))
   | (refine r_ret ?_; simp only [resL, resA, Tryz.f21, lk_cons', lk_nil', Nat.reduceBEq]; first | exact ⟨rfl, Sb.nil _, rfl⟩ | refine ⟨rfl, sbt ?_, rfl⟩ | refine ⟨rfl, Sb.of_eq ?_, rfl⟩)
   | (refine And.intro (by first | exact True.intro | omega | rfl | exact Nat.le_of_ble_eq_true rfl | (simp only [lnn]; omega) | exact List.forall_mem_nil _ | (refine List.forall_mem_cons.2 ⟨⟨_, rfl⟩, ?_⟩; repeat' first | exact List.forall_mem_nil _ | refine List.forall_mem_cons.2 ⟨⟨_, rfl⟩, ?_⟩)) ?_)
   | fail
  refine ⟨_, Ent.refl _, ?_⟩
  simp only [resL, resA, Tryz.f21, lk_cons', lk_nil', Nat.reduceBEq]
  exact ⟨_, rfl, rfl, ints_plain _⟩
def silT (a : List Int) : Nat → Bool
  | 0 => true
  | i + 1 => bif silT a i then gi a (i : Nat) == 0 else false
theorem silT_false {a : List Int} : ∀ n, silT a n = false → ∃ i : Nat, i < n ∧ gi a (i : Nat) ≠ 0
  | 0, h => by cases h
  | n + 1, h => by
    unfold silT at h
    cases hs : silT a n
    · obtain ⟨i, hi, h2⟩ := silT_false n hs
      exact ⟨i, by omega, h2⟩
    · rw [hs, cond_true] at h
      exact ⟨n, by omega, by simpa using h⟩
abbrev bol (b : Bool) : AV := .v (.bool b)
def bools (l : List Bool) : List AV := l.map bol
abbrev bsl (l : List Bool) : AV := .sl 1 l.length (bools l)
def gb (l : List Bool) (i : Nat) : Bool := l.getD i false
theorem bools_len (l : List Bool) : (bools l).length = l.length := by simp [bools]
theorem bools_at {l : List Bool} {i : Nat} (h : i < l.length) : (bools l)[i]? = some (bol (gb l i)) := by
  unfold bools gb
  rw [List.getElem?_map, List.getD_eq_getElem?_getD, List.getElem?_eq_getElem h]; rfl
theorem bools_plain : ∀ l : List Bool, plainL (bools l) = true
  | [] => rfl
  | b :: l => by
    have h := bools_plain l
    unfold bools at h ⊢
    rw [List.map_cons]
    simp only [plainL, AV.plain, h, Bool.and_self]
theorem bools_splice {l : List Bool} {i : Nat} (b : Bool) (h : i < l.length) : splice (bools l) i [bol b] = bools (l.set i b) := by
  unfold splice bools
  rw [← List.map_take, ← List.map_drop, List.set_eq_take_append_cons_drop, if_pos h]
  simp
theorem gb_set {l : List Bool} {i p : Nat} (b : Bool) (h : i < l.length) : gb (l.set i b) p = if p = i then b else gb l p := by
  unfold gb
  rw [List.getD_eq_getElem?_getD, List.getD_eq_getElem?_getD, List.getElem?_set]
  by_cases e : i = p
  · subst e; rw [if_pos rfl, if_pos rfl, if_pos h]; rfl
  · rw [if_neg e, if_neg (Ne.symm e)]
theorem gb_rep {n p : Nat} (h : p < n) : gb (List.replicate n true) p = true := by
  unfold gb
  rw [List.getD_eq_getElem?_getD, List.getElem?_replicate, if_pos h]; rfl
theorem gi_set2 {l : List Int} {i p : Nat} (v : Int) (h : i < l.length) : gi (l.set i v) (p : Nat) = if p = i then v else gi l (p : Nat) := by
  unfold gi
  rw [Int.toNat_natCast, List.getD_eq_getElem?_getD, List.getD_eq_getElem?_getD, List.getElem?_set]
  by_cases e : i = p
  · subst e; rw [if_pos rfl, if_pos rfl, if_pos h]; rfl
  · rw [if_neg e, if_neg (Ne.symm e)]
theorem cntB_set {l : List Bool} {a : Nat} (h : a < l.length) (hg : gb l a = true) : ∀ n, cntB (fun p => !gb (l.set a false) p) n = cntB (fun p => !gb l p) n + if a < n then 1 else 0
  | 0 => by rw [cntB, cntB, if_neg (by omega)]
  | n + 1 => by
    have ih := cntB_set h hg n
    rw [cntB, cntB, ih, gb_set false h]
    by_cases e : n = a
    · subst e
      rw [if_neg (Nat.lt_irrefl _), if_pos rfl, if_pos (Nat.lt_succ_self _), hg]
      rfl
    · rw [if_neg e]
      by_cases e2 : a < n
      · rw [if_pos e2, if_pos (by omega)]; omega
      · rw [if_neg e2, if_neg (by omega)]; omega
theorem cntB_none {p : Nat → Bool} : ∀ n, (∀ i, i < n → p i = false) → cntB p n = 0
  | 0, _ => rfl
  | n + 1, h => by rw [cntB, h n (by omega), cntB_none n fun i hi => h i (by omega)]; rfl
structure Own (x : List Int) (e k : Nat) (sp : List Int) (sd : List Bool) : Prop where
  spl : sp.length = e + x.length
  sdl : sd.length = x.length
  ok : ∀ p : Nat, p < x.length → gb sd p = true → gi sp ((p + e : Nat) : Int) = gi x (p : Nat)
  no : ∀ p : Nat, p < x.length → gb sd p = false → gi x (p : Nat) < gi sp ((p + e : Nat) : Int)
  cnt : cntB (fun p => !gb sd p) x.length = k
theorem own_zero (x : List Int) (e : Nat) : Own x e 0 (List.replicate e 0 ++ x) (List.replicate x.length true) := by
  refine ⟨by simp, by simp, fun p hp _ => ?_, fun p hp h => ?_, cntB_none _ fun p hp => by rw [gb_rep hp]; rfl⟩
  · unfold gi
    rw [Int.toNat_natCast, Int.toNat_natCast, List.getD_eq_getElem?_getD, List.getD_eq_getElem?_getD, List.getElem?_append_right (by simp)]
    simp
  · rw [gb_rep hp] at h; cases h
theorem own_step {x : List Int} {e k : Nat} {sp : List Int} {sd : List Bool} (h : Own x e k sp sd) {a : Nat} {d : Int} (ha : a < x.length) (hs : gb sd a = true) (hd : 1 ≤ d) :
    Own x e (k + 1) (sp.set (a + e) (gi sp ((a + e : Nat) : Int) + d)) (sd.set a false) := by
  have hsd := h.sdl
  have hsp := h.spl
  refine ⟨by rw [List.length_set]; exact h.spl, by rw [List.length_set]; exact h.sdl, fun p hp hg => ?_, fun p hp hg => ?_, ?_⟩
  · rw [gb_set false (by omega)] at hg
    rw [gi_set2 _ (by omega)]
    by_cases e2 : p = a
    · subst e2; rw [if_pos rfl] at hg; cases hg
    · rw [if_neg e2] at hg
      rw [if_neg (by omega)]
      exact h.ok p hp hg
  · rw [gb_set false (by omega)] at hg
    rw [gi_set2 _ (by omega)]
    by_cases e2 : p = a
    · subst e2
      rw [if_pos rfl, h.ok p hp hs]; omega
    · rw [if_neg e2] at hg
      rw [if_neg (by omega)]
      exact h.no p hp hg
  · rw [cntB_set (by omega) hs, h.cnt, if_pos ha]
theorem v_drawTJ {E : Ev} {mu : List Nat} {N : St → Prop} {X : Nat → St → Prop} {R : St → Prop} {σ : St} (hE : EvOk E) (hro : E.ro = none) {id : Nat} {l : List Go.Oper} (fs : List Nat) (t : OT) (hb : treeB mu l fs t = true) (σc : St) (hN : ∀ σ1 σ2, Ent σ1 σ2 → N σ2 → N σ1) (hr : N σc)
    (h : ∀ K : St → Prop, (∀ σ', Ent σ' σc → K σ') → wpA E mu l.toArray (fs.filterMap fun i => l.toArray[i]?) σ fun σ1 => bif t.isNil then K σ1 else wpK E mu l.toArray t σ1 K) : VC E mu (.region id l.toArray true) ⟨N, X, R⟩ σ :=
  v_drawT hE hro fs t hb fun K hK => h K fun σ' he => hK σ' (hN _ _ he hr)
abbrev LpE := Int → Int
structure LpT where
  t : Nat
  ts : List Tf
  sds : List (List Bool)
  R : Nat
  Y : Nat
structure LdT where
  k : Nat
  sp : List Int
  sd : List Bool
  Y : Nat
def sndC (sds : List (List Bool)) : List AV := sds.map bsl ++ List.replicate (3 - sds.length) (.v (.slice none 0 0))
theorem fz_plainL (k : Nat) (c : List AV) {l : List AV} (h : plainL l = true) : l.map (AV.fz k c) = l := by
  conv => rhs; rw [← List.map_id l]
  exact List.map_congr_left fun a ha => by
    obtain ⟨i, hi, e⟩ := List.getElem_of_mem ha
    exact fz_plain' k c (plainL_get h (i := i) (by rw [List.getElem?_eq_getElem hi, e]))
theorem plainL_append : ∀ {a b : List AV}, plainL a = true → plainL b = true → plainL (a ++ b) = true
  | [], b, _, hb => hb
  | x :: a, b, ha, hb => by
    simp only [plainL, Bool.and_eq_true] at ha
    rw [List.cons_append]
    simp only [plainL, Bool.and_eq_true]
    exact ⟨ha.1, plainL_append ha.2 hb⟩
theorem sndC_plain (sds : List (List Bool)) : plainL (sndC sds) = true := by
  refine plainL_append (plainL_of fun c hc => ?_) (plainL_of fun c hc => ?_)
  · obtain ⟨l, _, rfl⟩ := List.mem_map.1 hc; rfl
  · rw [(List.mem_replicate.1 hc).2]; rfl
def gD3 (D0 D1 D2 : List Lmk) (t : Nat) : List Lmk := [D0, D1, D2].getD t []
def nm3 (t : Nat) : ByteArray := [vC, vA, vB].getD t vC
structure Lp (x : List Int) (E : LpE) (t : Nat) (ts : List Tf) (sds : List (List Bool)) : Prop where
  tl : ts.length = t
  sl : sds.length = t
  each : ∀ q, q < t → ∃ e k : Nat, E (q : Nat) = e ∧ e ≤ 8 ∧ k ≤ 10 ∧ (gt7 ts q).nm = nm3 q ∧ (gt7 ts q).lag = e ∧ Own x e k (gt7 ts q).xs (sds.getD q []) ∧ signalErr (gt7 ts q).xs = 0
theorem lp_zero (x : List Int) (E : LpE) : Lp x E 0 [] [] := ⟨rfl, rfl, fun q hq => absurd hq (by omega)⟩
theorem sndC_snoc {sds : List (List Bool)} {sd : List Bool} (h : sds.length < 3) : sndC (sds ++ [sd]) = (sndC sds).set sds.length (bsl sd) := by
  unfold sndC
  rw [List.map_append, List.length_append, List.length_singleton, List.set_append_right _ _ (by simp), List.length_map, Nat.sub_self, show 3 - sds.length = 3 - (sds.length + 1) + 1 by omega, List.replicate_succ, List.set_cons_zero]
  simp
theorem lp_step {x : List Int} {E : LpE} {t e k : Nat} {ts : List Tf} {sds : List (List Bool)} {sp : List Int} {sd : List Bool} (h : Lp x E t ts sds) (hE : E (t : Nat) = e) (he : e ≤ 8) (hk : k ≤ 10) (ho : Own x e k sp sd) (hs : signalErr sp = 0) :
    Lp x E (t + 1) (ts ++ [⟨nm3 t, e, sp⟩]) (sds ++ [sd]) := by
  refine ⟨by rw [List.length_append, h.tl]; rfl, by rw [List.length_append, h.sl]; rfl, fun q hq => ?_⟩
  have hg : ∀ q, q < t → gt7 (ts ++ [⟨nm3 t, e, sp⟩]) q = gt7 ts q := fun q hq => by
    unfold gt7
    rw [List.getD_eq_getElem?_getD, List.getD_eq_getElem?_getD, List.getElem?_append_left (by rw [h.tl]; exact hq)]
  have hd : ∀ q, q < t → (sds ++ [sd]).getD q [] = sds.getD q [] := fun q hq => by
    rw [List.getD_eq_getElem?_getD, List.getD_eq_getElem?_getD, List.getElem?_append_left (by rw [h.sl]; exact hq)]
  by_cases eq : q = t
  · subst eq
    have h1 : gt7 (ts ++ [⟨nm3 q, e, sp⟩]) q = ⟨nm3 q, e, sp⟩ := by
      unfold gt7
      rw [List.getD_eq_getElem?_getD, List.getElem?_append_right (by rw [h.tl]; exact Nat.le_refl _), h.tl, Nat.sub_self]; rfl
    have h2 : (sds ++ [sd]).getD q [] = sd := by
      rw [List.getD_eq_getElem?_getD, List.getElem?_append_right (by rw [h.sl]; exact Nat.le_refl _), h.sl, Nat.sub_self]; rfl
    rw [h1, h2]
    exact ⟨e, k, hE, he, hk, rfl, rfl, ho, hs⟩
  · rw [hg q (by omega), hd q (by omega)]
    exact h.each q (by omega)
abbrev lmA (D : List Lmk) : AV := .sl 3 D.length (ints (flatL D))
abbrev jcC (x : List Int) (e0 e1 e2 : Int) (D0 D1 D2 : List Lmk) : List AV := [isl x, iv e0, iv e1, iv e2, lmA D0, lmA D1, lmA D2]
def cT (g : Nat → Nat → Bool) (p : Nat) : Nat → Nat
  | 0 => 0
  | t + 1 => cT g p t + bif g t p then 1 else 0
def smT (g : Nat → Nat → Bool) (p : Nat) : Nat → Bool
  | 0 => false
  | t + 1 => smT g p t || (g t p && g t (p + 1) && g t (p + 2) && g t (p + 3))
def whT (g : Nat → Nat → Bool) : Nat → Bool
  | 0 => true
  | p + 1 => bif ((p : Nat) : Int).tmod 4 != 0 then whT g p else whT g p && smT g p 3
theorem cT_le (g : Nat → Nat → Bool) (p : Nat) : ∀ t, cT g p t ≤ t
  | 0 => Nat.le_refl _
  | t + 1 => by
    have := cT_le g p t
    rw [cT]
    cases g t p
    · rw [cond_false]; omega
    · rw [cond_true]; omega
theorem below_succ2 {P : Nat → Prop} {i : Nat} (h : ∀ p, p < i → P p) (hi : P i) : ∀ p, p < i + 1 → P p := fun p hp => by
  by_cases e : p = i
  · subst e; exact hi
  · exact h p (by omega)
theorem isName_sz {s : ByteArray} (h : isName s = true) : s.size ≤ 12 := by
  unfold isName at h
  rw [Bool.and_eq_true, Bool.not_eq_true', Bool.or_eq_false_iff] at h
  have := of_decide_eq_false h.1.2
  omega
theorem smT_some {g : Nat → Nat → Bool} {p : Nat} : ∀ m, smT g p m = true → ∃ t, t < m ∧ ∀ q, q < 4 → g t (p + q) = true
  | 0, h => by cases h
  | m + 1, h => by
    rw [smT, Bool.or_eq_true] at h
    rcases h with h | h
    · obtain ⟨t, ht, h2⟩ := smT_some m h
      exact ⟨t, by omega, h2⟩
    · simp only [Bool.and_eq_true] at h
      refine ⟨m, by omega, fun q hq => ?_⟩
      have : q = 0 ∨ q = 1 ∨ q = 2 ∨ q = 3 := by omega
      rcases this with rfl | rfl | rfl | rfl
      · exact h.1.1.1
      · exact h.1.1.2
      · exact h.1.2
      · exact h.2
theorem whT_all {g : Nat → Nat → Bool} : ∀ m, whT g m = true → ∀ p, p < m → p % 4 = 0 → smT g p 3 = true
  | 0, _, p, hp, _ => absurd hp (by omega)
  | m + 1, h, p, hp, h4 => by
    rw [whT] at h
    cases hm : ((m : Nat) : Int).tmod 4 != 0
    · rw [hm, cond_false, Bool.and_eq_true] at h
      by_cases e : p = m
      · subst e; exact h.2
      · exact whT_all m h.1 p (by omega) h4
    · rw [hm, cond_true] at h
      by_cases e : p = m
      · subst e
        exfalso
        have e1 : ((p : Nat) : Int).tmod 4 ≠ 0 := by simpa using hm
        rw [show ((p : Nat) : Int).tmod 4 = ((p % 4 : Nat) : Int) from (Int.ofNat_tmod p 4).symm] at e1
        omega
      · exact whT_all m h p (by omega) h4
theorem two_of {b0 b1 b2 : Bool} {g : Nat → Bool} (h0 : g 0 = b0) (h1 : g 1 = b1) (h2 : g 2 = b2) (h : 2 ≤ (bif b0 then 1 else 0) + (bif b1 then 1 else 0) + (bif b2 then 1 else 0)) : ∃ t, t < 3 ∧ ∀ s, s < 3 → s ≠ t → g s = true := by
  have hs : ∀ s, s < 3 → s = 0 ∨ s = 1 ∨ s = 2 := fun s _ => by omega
  cases b0 <;> cases b1 <;> cases b2 <;> simp only [cond_true, cond_false] at h
  all_goals try omega
  · exact ⟨0, by omega, fun s h3 hn => by rcases hs s h3 with rfl | rfl | rfl <;> first | exact absurd rfl hn | assumption⟩
  · exact ⟨1, by omega, fun s h3 hn => by rcases hs s h3 with rfl | rfl | rfl <;> first | exact absurd rfl hn | assumption⟩
  · exact ⟨2, by omega, fun s h3 hn => by rcases hs s h3 with rfl | rfl | rfl <;> first | exact absurd rfl hn | assumption⟩
  · exact ⟨0, by omega, fun s h3 hn => by rcases hs s h3 with rfl | rfl | rfl <;> first | exact absurd rfl hn | assumption⟩
theorem res_of {x : List Int} {E : LpE} {ts : List Tf} {sds : List (List Bool)} (hx : signalErr x = 0) (hl : x.length ≤ 24) (hl1 : 1 ≤ x.length) (h : Lp x E 3 ts sds) (hc : ∀ p, p < x.length → 2 ≤ cT (fun t p => gb (sds.getD t []) p) p 3) : Res x ts fun t p => gb (sds.getD t []) p := by
  have htl := h.tl
  have h3 : ∀ q, q < 3 → q = 0 ∨ q = 1 ∨ q = 2 := fun q _ => by omega
  refine ⟨⟨by omega, by omega, fun i hi => ?_, fun i j hj hi => ?_, fun i hi => ?_, fun i hi => ?_, fun i hi => ?_⟩, htl, fun t p ht hp => ?_, fun t p ht hp hg => ?_, fun t p ht hp hg => ?_, fun p hp => ?_⟩
  · obtain ⟨e, k, _, _, _, hn, _, _, _⟩ := h.each i (by omega)
    rw [hn]
    rcases h3 i (by omega) with rfl | rfl | rfl
    · exact nC1
    · exact nA1
    · exact nB1
  · obtain ⟨_, _, _, _, _, hn, _, _, _⟩ := h.each i (by omega)
    obtain ⟨_, _, _, _, _, hn', _, _, _⟩ := h.each j (by omega)
    rw [hn, hn']
    have : (i = 1 ∧ j = 0) ∨ (i = 2 ∧ j = 0) ∨ (i = 2 ∧ j = 1) := by omega
    rcases this with ⟨rfl, rfl⟩ | ⟨rfl, rfl⟩ | ⟨rfl, rfl⟩
    · exact nmEq_false.1 (nm_ne nAC).2
    · exact nmEq_false.1 (nm_ne nBC).2
    · exact nmEq_false.1 (nm_ne nAB).1
  · obtain ⟨e, k, _, he, _, _, hg, _, _⟩ := h.each i (by omega)
    rw [hg]; omega
  · obtain ⟨e, k, _, he, _, _, _, ho, _⟩ := h.each i (by omega)
    rw [ho.spl]; omega
  · obtain ⟨e, k, _, he, _, _, _, ho, hs⟩ := h.each i (by omega)
    exact (signalErr_zero hs).2
  · obtain ⟨e, k, _, he, _, _, hg, ho, _⟩ := h.each t ht
    unfold hasAt
    rw [hg, ho.spl]
    exact within_iff.2 (by omega)
  · obtain ⟨e, k, _, he, _, _, hgl, ho, _⟩ := h.each t ht
    unfold smp
    rw [hgl]
    have := ho.ok p hp hg
    rwa [show ((p + e : Nat) : Int) = (p : Int) + (e : Int) by omega] at this
  · obtain ⟨e, k, _, he, _, _, hgl, ho, _⟩ := h.each t ht
    unfold smp
    rw [hgl]
    have := ho.no p hp hg
    rw [show ((p + e : Nat) : Int) = (p : Int) + (e : Int) by omega] at this
    omega
  · have := hc p hp
    simp only [cT, Nat.zero_add] at this
    exact two_of (g := fun t => gb (sds.getD t []) p) rfl rfl rfl this
section
variable {mu : List Nat} {N : St → Prop} {X : Nat → St → Prop} {R : St → Prop} {σ : St}
theorem rgAs (s : Nat) {id : Nat} {l : List Go.Oper} (hi : (id == s) = false) (h : ∀ K : St → Prop, (∀ σ', N σ' → K σ') → wpA ev mu l.toArray l σ K) : VC ev mu (.region id l.toArray false) ⟨N, X, R⟩ σ := v_region evOk h
theorem rgBs (s : Nat) {id : Nat} {l : List Go.Oper} (hi : (id == s) = false) (hb : drawB false mu l (headStill mu l) = true) (h : ∀ K : St → Prop, (∀ σ', N σ' → K σ') → wpA ev mu l.toArray l σ K) : VC ev mu (.region id l.toArray true) ⟨N, X, R⟩ σ := v_draw' evOk hb h
theorem rgCs (s : Nat) {id : Nat} {l : List Go.Oper} (hi : (id == s) = false) (hb : drawB true mu l (headStill mu l) = true) (h : ∀ K : St → Prop, (∀ σ', N σ' → K σ') → wpA ev mu l.toArray l σ K) : VC ev mu (.region id l.toArray true) ⟨N, X, R⟩ σ := v_drawF evOk rfl hb h
end
theorem c_FormatFew (n : Int) (l : List Pc) (hl22 : l.length ≤ 22) (hn : I64 n) (hb : ∀ p ∈ l, I64 p.fr ∧ I64 p.so ∧ I64 p.lag) :
    Pure Tryz.prog 63 [plA n l] (AV.v (.string (join7 (wToI n l l.length) ⟨#[44]⟩))) ∧ (join7 (wToI n l l.length) ⟨#[44]⟩).size ≤ 2000 := by
  have hb' : ∀ i, i < l.length → (-9223372036854775808 ≤ (gpT l i).fr ∧ (gpT l i).fr ≤ 9223372036854775807) ∧ (-9223372036854775808 ≤ (gpT l i).so ∧ (gpT l i).so ≤ 9223372036854775807) ∧ (-9223372036854775808 ≤ (gpT l i).lag ∧ (gpT l i).lag ≤ 9223372036854775807) := fun i hi => by
    rw [← gpT_eq hi]; exact hb _ (List.getElem_mem hi)
  have hfs := fmtB_size n l hn hb' l.length (Nat.le_refl _)
  have hfs2 := fmt_same n l l.length (Nat.le_refl _)
  have hJ : (Lib.join ((wToI n l l.length).map (·.data.toList)) [44]).length ≤ 140737488355328 := by
    rw [← hfs2]
    show (fmtB n l l.length).size ≤ _
    omega
  refine ⟨c_FormatPlan n l hn (by omega) hb (fun p hp => ?_) hJ, ?_⟩
  · obtain ⟨b1, b2, b3⟩ := hb p hp
    have h1 : (Lib.itoa p.fr).length ≤ 21 := itB_size _ b1
    have h2 : (Lib.itoa p.so).length ≤ 21 := itB_size _ b2
    have h3 : (Lib.itoa p.lag).length ≤ 21 := itB_size _ b3
    simp only [List.map_cons, List.map_nil, Lib.join_cons, Lib.joinTail, itoaS, List.flatten_cons, List.flatten_nil, List.length_append, List.length_cons, List.length_nil]
    omega
  · rw [← fmt_eq n l]; omega
theorem s_TopJoinRestored (x : List Int) (e0 e1 e2 : Int) (D0 D1 D2 : List Lmk) :
    Pure Tryz.prog 11 [.ag (jcC x e0 e1 e2 D0 D1 D2)] (AV.v (.bool true)) := by
  have n0 : ((0 : Nat) : Int) = 0 := rfl
  cases hz : (x.length : Int) == 0
  rotate_left
  · refine p_intro evOk [6, 7, 9, 10, 13, 15, 31, 35, 37, 39, 102, 133, 146, 385] Tryz.func11 rfl Tryz.call11 ?_
    repeat' first
     | refine v_seq ?_ | refine v_block ?_ | refine v_ret ?_ | refine v_skip ?_ | (refine v_exit ?_; repeat' first | refine xB_eq ?_ | refine xB_ne rfl ?_)
     | ((first | refine rgA fun K hK => ?_ | refine rgB rfl fun K hK => ?_ | refine rgC rfl fun K hK => ?_); simp only [go_sem,simprocAttr,hz])
     | (simp (disch := first | omega | rfl | (simp only [lnn]; omega)) only [spl])
     | (refine hK _ ?_; clear hK K)
     | (refine gdB_intro (fun h => ?_) (fun h => ?_) <;> simp only [go_sem,simprocAttr,h,hz] <;> (have h' := h; try simp only [bl] at h'))
     | (refine v_cond rfl (fun h => ?_) (fun h => ?_) <;> first | (exact Bool.noConfusion h) | (have h' := h; try simp only [bl] at h'))
     | (refine r_ret ?_; simp only [resL, resA, Tryz.f11, lk_cons', lk_nil', Nat.reduceBEq]; first | exact ⟨rfl, Sb.nil _, rfl⟩ | refine ⟨rfl, sbt ?_, rfl⟩ | refine ⟨rfl, Sb.of_eq ?_, rfl⟩)
     | (refine And.intro (by first | exact True.intro | omega | rfl | exact Nat.le_of_ble_eq_true rfl | (simp only [lnn]; omega) | exact List.forall_mem_nil _ | (refine List.forall_mem_cons.2 ⟨⟨_, rfl⟩, ?_⟩; repeat' first | exact List.forall_mem_nil _ | refine List.forall_mem_cons.2 ⟨⟨_, rfl⟩, ?_⟩)) ?_)
     | ((first | refine call_pure' (c_joinShown) rfl ?_); simp only [go_sem,simprocAttr,hz])
     | fail
    all_goals rfl
  cases h24 : decide (24 < (x.length : Int))
  rotate_left
  · refine p_intro evOk [6, 7, 9, 10, 13, 15, 31, 35, 37, 39, 102, 133, 146, 385] Tryz.func11 rfl Tryz.call11 ?_
    repeat' first
     | refine v_seq ?_ | refine v_block ?_ | refine v_ret ?_ | refine v_skip ?_ | (refine v_exit ?_; repeat' first | refine xB_eq ?_ | refine xB_ne rfl ?_)
     | ((first | refine rgA fun K hK => ?_ | refine rgB rfl fun K hK => ?_ | refine rgC rfl fun K hK => ?_); simp only [go_sem,simprocAttr,hz,h24])
     | (simp (disch := first | omega | rfl | (simp only [lnn]; omega)) only [spl])
     | (refine hK _ ?_; clear hK K)
     | (refine gdB_intro (fun h => ?_) (fun h => ?_) <;> simp only [go_sem,simprocAttr,h,hz,h24] <;> (have h' := h; try simp only [bl] at h'))
     | (refine v_cond rfl (fun h => ?_) (fun h => ?_) <;> first | (exact Bool.noConfusion h) | (have h' := h; try simp only [bl] at h'))
     | (refine r_ret ?_; simp only [resL, resA, Tryz.f11, lk_cons', lk_nil', Nat.reduceBEq]; first | exact ⟨rfl, Sb.nil _, rfl⟩ | refine ⟨rfl, sbt ?_, rfl⟩ | refine ⟨rfl, Sb.of_eq ?_, rfl⟩)
     | (refine And.intro (by first | exact True.intro | omega | rfl | exact Nat.le_of_ble_eq_true rfl | (simp only [lnn]; omega) | exact List.forall_mem_nil _ | (refine List.forall_mem_cons.2 ⟨⟨_, rfl⟩, ?_⟩; repeat' first | exact List.forall_mem_nil _ | refine List.forall_mem_cons.2 ⟨⟨_, rfl⟩, ?_⟩)) ?_)
     | ((first | refine call_pure' (c_joinShown) rfl ?_); simp only [go_sem,simprocAttr,hz,h24])
     | fail
    all_goals rfl
  cases h4 : ((x.length : Int).tmod 4 != 0)
  rotate_left
  · refine p_intro evOk [6, 7, 9, 10, 13, 15, 31, 35, 37, 39, 102, 133, 146, 385] Tryz.func11 rfl Tryz.call11 ?_
    repeat' first
     | refine v_seq ?_ | refine v_block ?_ | refine v_ret ?_ | refine v_skip ?_ | (refine v_exit ?_; repeat' first | refine xB_eq ?_ | refine xB_ne rfl ?_)
     | ((first | refine rgA fun K hK => ?_ | refine rgB rfl fun K hK => ?_ | refine rgC rfl fun K hK => ?_); simp only [go_sem,simprocAttr,hz,h24,h4])
     | (simp (disch := first | omega | rfl | (simp only [lnn]; omega)) only [spl])
     | (refine hK _ ?_; clear hK K)
     | (refine gdB_intro (fun h => ?_) (fun h => ?_) <;> simp only [go_sem,simprocAttr,h,hz,h24,h4] <;> (have h' := h; try simp only [bl] at h'))
     | (refine v_cond rfl (fun h => ?_) (fun h => ?_) <;> first | (exact Bool.noConfusion h) | (have h' := h; try simp only [bl] at h'))
     | (refine r_ret ?_; simp only [resL, resA, Tryz.f11, lk_cons', lk_nil', Nat.reduceBEq]; first | exact ⟨rfl, Sb.nil _, rfl⟩ | refine ⟨rfl, sbt ?_, rfl⟩ | refine ⟨rfl, Sb.of_eq ?_, rfl⟩)
     | (refine And.intro (by first | exact True.intro | omega | rfl | exact Nat.le_of_ble_eq_true rfl | (simp only [lnn]; omega) | exact List.forall_mem_nil _ | (refine List.forall_mem_cons.2 ⟨⟨_, rfl⟩, ?_⟩; repeat' first | exact List.forall_mem_nil _ | refine List.forall_mem_cons.2 ⟨⟨_, rfl⟩, ?_⟩)) ?_)
     | ((first | refine call_pure' (c_joinShown) rfl ?_); simp only [go_sem,simprocAttr,hz,h24,h4])
     | fail
    all_goals rfl
  have hl24 : x.length ≤ 24 := by have := of_decide_eq_false h24; omega
  have hl1 : 1 ≤ x.length := by have : (x.length : Int) ≠ 0 := by simpa using hz
                                omega
  have lx : Len x.length := by unfold Len; omega
  have ksx := c_SignalErr x lx
  cases hSx : signalErr x != 0
  rotate_left
  · refine p_intro evOk [6, 7, 9, 10, 13, 15, 31, 35, 37, 39, 102, 133, 146, 385] Tryz.func11 rfl Tryz.call11 ?_
    repeat' first
     | refine v_seq ?_ | refine v_block ?_ | refine v_ret ?_ | refine v_skip ?_ | (refine v_exit ?_; repeat' first | refine xB_eq ?_ | refine xB_ne rfl ?_)
     | ((first | refine rgA fun K hK => ?_ | refine rgB rfl fun K hK => ?_ | refine rgC rfl fun K hK => ?_); simp only [go_sem,simprocAttr,hz,h24,h4,hSx])
     | (simp (disch := first | omega | rfl | (simp only [lnn]; omega)) only [spl])
     | (refine hK _ ?_; clear hK K)
     | (refine gdB_intro (fun h => ?_) (fun h => ?_) <;> simp only [go_sem,simprocAttr,h,hz,h24,h4,hSx] <;> (have h' := h; try simp only [bl] at h'))
     | (refine v_cond rfl (fun h => ?_) (fun h => ?_) <;> first | (exact Bool.noConfusion h) | (have h' := h; try simp only [bl] at h'))
     | (refine r_ret ?_; simp only [resL, resA, Tryz.f11, lk_cons', lk_nil', Nat.reduceBEq]; first | exact ⟨rfl, Sb.nil _, rfl⟩ | refine ⟨rfl, sbt ?_, rfl⟩ | refine ⟨rfl, Sb.of_eq ?_, rfl⟩)
     | (refine And.intro (by first | exact True.intro | omega | rfl | exact Nat.le_of_ble_eq_true rfl | (simp only [lnn]; omega) | exact List.forall_mem_nil _ | (refine List.forall_mem_cons.2 ⟨⟨_, rfl⟩, ?_⟩; repeat' first | exact List.forall_mem_nil _ | refine List.forall_mem_cons.2 ⟨⟨_, rfl⟩, ?_⟩)) ?_)
     | ((first | refine call_pure' (c_joinShown) rfl ?_ | refine call_pure' (ksx) rfl ?_); simp only [go_sem,simprocAttr,hz,h24,h4,hSx])
     | fail
    all_goals rfl
  have hSx0 : signalErr x = 0 := by simpa using hSx
  rw [hSx0] at ksx
  obtain ⟨_, sx⟩ := signalErr_zero hSx0
  have hsi : ∀ i, silT x (i + 1) = bif silT x i then gi x (i : Nat) == 0 else false := fun _ => rfl
  refine p_intro evOk [6, 7, 9, 10, 13, 15, 31, 35, 37, 39, 102, 133, 146, 385] Tryz.func11 rfl Tryz.call11 ?_
  repeat' first
   | refine v_seq ?_ | refine v_block ?_ | refine v_ret ?_ | refine v_skip ?_ | (refine v_exit ?_; repeat' first | refine xB_eq ?_ | refine xB_ne rfl ?_)
   | ((first | refine rgA fun K hK => ?_ | refine rgB rfl fun K hK => ?_ | refine rgC rfl fun K hK => ?_); simp only [go_sem,simprocAttr,hz,h24,h4,bne_self_eq_false,n0])
   | (simp (disch := first | omega | rfl | (simp only [lnn]; omega)) only [spl])
   | (refine hK _ ?_; clear hK K)
   | (refine gdB_intro (fun h => ?_) (fun h => ?_) <;> simp only [go_sem,simprocAttr,h,hz,h24,h4,bne_self_eq_false,n0] <;> (have h' := h; try simp only [bl] at h'))
   | (refine v_cond rfl (fun h => ?_) (fun h => ?_) <;> first | (exact Bool.noConfusion h) | (have h' := h; try simp only [bl] at h'))
   | (refine r_ret ?_; simp only [resL, resA, Tryz.f11, lk_cons', lk_nil', Nat.reduceBEq]; first | exact ⟨rfl, Sb.nil _, rfl⟩ | refine ⟨rfl, sbt ?_, rfl⟩ | refine ⟨rfl, Sb.of_eq ?_, rfl⟩)
   | (refine And.intro (by first | exact True.intro | omega | rfl | exact Nat.le_of_ble_eq_true rfl | (simp only [lnn]; omega) | exact List.forall_mem_nil _ | (refine List.forall_mem_cons.2 ⟨⟨_, rfl⟩, ?_⟩; repeat' first | exact List.forall_mem_nil _ | refine List.forall_mem_cons.2 ⟨⟨_, rfl⟩, ?_⟩)) ?_)
   | ((first | refine call_pure' (c_joinShown) rfl ?_ | refine call_pure' (ksx) rfl ?_); simp only [go_sem,simprocAttr,hz,h24,h4,bne_self_eq_false,n0])
   | fail
  refine v_loop (T := Nat) (fun i => ⟨[(1, .pt (jcC x e0 e1 e2 D0 D1 D2) 0), (3, iv x.length), (4, .v (.bool (silT x i))), (5, iv i)], emp, 0, (480, 0, 0)⟩) (fun i => i ≤ x.length) (fun i => x.length - i) 0 (by omega) (by (refine ent_eq ?_ rfl rfl rfl; repeat' first | exact trivial | refine ⟨?_, ?_⟩ | rfl)) ?_
  intro i hi
  by_cases hi2 : i < x.length
  · have hd : decide ((i : Int) < x.length) = true := decide_eq_true (by omega)
    cases hzi : silT x i
    all_goals
      repeat' first
       | refine v_seq ?_ | refine v_block ?_ | refine v_ret ?_ | refine v_skip ?_ | (refine v_exit ?_; repeat' first | refine xB_eq ?_ | refine xB_ne rfl ?_)
       | ((first | refine rgA fun K hK => ?_ | refine rgB rfl fun K hK => ?_ | refine rgC rfl fun K hK => ?_); simp only [go_sem,simprocAttr,hd,hzi,n0])
       | (simp (disch := first | omega | rfl | (simp only [lnn]; omega)) only [spl])
       | (refine hK _ ?_; clear hK K)
       | (refine gdB_intro (fun h => ?_) (fun h => ?_) <;> simp only [go_sem,simprocAttr,h,hd,hzi,n0] <;> (have h' := h; try simp only [bl] at h'))
       | (refine v_cond rfl (fun h => ?_) (fun h => ?_) <;> first | (exact Bool.noConfusion h) | (have h' := h; try simp only [bl] at h'))
       | (refine r_ret ?_; simp only [resL, resA, Tryz.f11, lk_cons', lk_nil', Nat.reduceBEq]; first | exact ⟨rfl, Sb.nil _, rfl⟩ | refine ⟨rfl, sbt ?_, rfl⟩ | refine ⟨rfl, Sb.of_eq ?_, rfl⟩)
       | (refine And.intro (by first | exact True.intro | omega | rfl | exact Nat.le_of_ble_eq_true rfl | (simp only [lnn]; omega) | exact List.forall_mem_nil _ | (refine List.forall_mem_cons.2 ⟨⟨_, rfl⟩, ?_⟩; repeat' first | exact List.forall_mem_nil _ | refine List.forall_mem_cons.2 ⟨⟨_, rfl⟩, ?_⟩)) ?_)
       | fail
      refine ⟨i + 1, ?_, by omega, by omega⟩
      rw [hsi, hzi]
      exact ent_rows [] (by (repeat' first | exact trivial | refine ⟨?_, ?_⟩ | rfl | (refine congrArg (fun z => some (AV.v (Value.int .i64 z))) ?_; omega))) rfl True.intro (Nat.le_refl _)
  obtain rfl : i = x.length := by omega
  have hd : decide ((x.length : Int) < x.length) = false := decide_eq_false (by omega)
  cases hzs : silT x x.length
  rotate_left
  · repeat' first
     | refine v_seq ?_ | refine v_block ?_ | refine v_ret ?_ | refine v_skip ?_ | (refine v_exit ?_; repeat' first | refine xB_eq ?_ | refine xB_ne rfl ?_)
     | ((first | refine rgA fun K hK => ?_ | refine rgB rfl fun K hK => ?_ | refine rgC rfl fun K hK => ?_); simp only [go_sem,simprocAttr,hd,hzs])
     | (simp (disch := first | omega | rfl | (simp only [lnn]; omega)) only [spl])
     | (refine hK _ ?_; clear hK K)
     | (refine gdB_intro (fun h => ?_) (fun h => ?_) <;> simp only [go_sem,simprocAttr,h,hd,hzs] <;> (have h' := h; try simp only [bl] at h'))
     | (refine v_cond rfl (fun h => ?_) (fun h => ?_) <;> first | (exact Bool.noConfusion h) | (have h' := h; try simp only [bl] at h'))
     | (refine r_ret ?_; simp only [resL, resA, Tryz.f11, lk_cons', lk_nil', Nat.reduceBEq]; first | exact ⟨rfl, Sb.nil _, rfl⟩ | refine ⟨rfl, sbt ?_, rfl⟩ | refine ⟨rfl, Sb.of_eq ?_, rfl⟩)
     | (refine And.intro (by first | exact True.intro | omega | rfl | exact Nat.le_of_ble_eq_true rfl | (simp only [lnn]; omega) | exact List.forall_mem_nil _ | (refine List.forall_mem_cons.2 ⟨⟨_, rfl⟩, ?_⟩; repeat' first | exact List.forall_mem_nil _ | refine List.forall_mem_cons.2 ⟨⟨_, rfl⟩, ?_⟩)) ?_)
     | fail
    all_goals rfl
  have hne : ∃ i : Nat, i < x.length ∧ gi x (i : Nat) ≠ 0 := silT_false _ hzs
  repeat' first
   | refine v_seq ?_ | refine v_block ?_ | refine v_ret ?_ | refine v_skip ?_ | (refine v_exit ?_; repeat' first | refine xB_eq ?_ | refine xB_ne rfl ?_)
   | ((first | refine rgA fun K hK => ?_ | refine rgB rfl fun K hK => ?_ | refine rgC rfl fun K hK => ?_); simp only [go_sem,simprocAttr,hd,hzs,hset_at,hset_hset])
   | (simp (disch := first | omega | rfl | (simp only [lnn]; omega)) only [spl])
   | (refine hK _ ?_; clear hK K)
   | (refine gdB_intro (fun h => ?_) (fun h => ?_) <;> simp only [go_sem,simprocAttr,h,hd,hzs,hset_at,hset_hset] <;> (have h' := h; try simp only [bl] at h'))
   | (refine v_cond rfl (fun h => ?_) (fun h => ?_) <;> first | (exact Bool.noConfusion h) | (have h' := h; try simp only [bl] at h'))
   | (refine r_ret ?_; simp only [resL, resA, Tryz.f11, lk_cons', lk_nil', Nat.reduceBEq]; first | exact ⟨rfl, Sb.nil _, rfl⟩ | refine ⟨rfl, sbt ?_, rfl⟩ | refine ⟨rfl, Sb.of_eq ?_, rfl⟩)
   | (refine And.intro (by first | exact True.intro | omega | rfl | exact Nat.le_of_ble_eq_true rfl | (simp only [lnn]; omega) | exact List.forall_mem_nil _ | (refine List.forall_mem_cons.2 ⟨⟨_, rfl⟩, ?_⟩; repeat' first | exact List.forall_mem_nil _ | refine List.forall_mem_cons.2 ⟨⟨_, rfl⟩, ?_⟩)) ?_)
   | fail
  refine v_loop (T := LpT) (fun s => ⟨[(1, .pt (jcC x e0 e1 e2 D0 D1 D2) 0), (3, iv x.length), (6, .ls s.R 0 3 s.t), (7, .lp 1 0), (8, iv s.t)], hls [(1, sndC s.sds), (s.R, tcs s.ts)], s.Y, (480, 0, 0)⟩)
    (fun s => Lp x (gi [e0, e1, e2]) s.t s.ts s.sds ∧ s.t ≤ 3 ∧ s.R ≠ 1 ∧ s.R < s.Y ∧ 2 ≤ s.Y) (fun s => 3 - s.t) ⟨0, [], [], 0, 2⟩ ⟨lp_zero _ _, by show 0 ≤ 3; omega, by show 0 ≠ 1; omega, by show 0 < 2; omega, by show 2 ≤ 2; omega⟩ ?_ ?_
  · exact ent_rows [(1, sndC []), (0, tcs [])] (by (repeat' first | exact trivial | refine ⟨?_, ?_⟩ | rfl | (refine congrArg (fun z => some (AV.v (Value.int .i64 z))) ?_; omega))) rfl ⟨⟨by simp [hset', hls, sndC], by (first | omega | (dsimp only; omega))⟩, ⟨by simp [hset', hls, tcs], by (first | omega | (dsimp only; omega))⟩, True.intro⟩ (Nat.le_refl _)
  rintro ⟨t, ts, sds, R, Y⟩ ⟨hLp, ht3, hR, hRY, hY2⟩
  dsimp only at hLp ht3 hR hRY hY2 ⊢
  by_cases ht : t < 3
  · have hd2 : decide ((t : Int) < 3) = true := decide_eq_true (by omega)
    have l1 : (jcC x e0 e1 e2 D0 D1 D2)[1 + ((t : Nat) : Int).toNat * 1]? = some (iv (gi [e0, e1, e2] (t : Nat))) := by
      have h3 : t = 0 ∨ t = 1 ∨ t = 2 := by omega
      rcases h3 with rfl | rfl | rfl <;> rfl
    have l2 : (jcC x e0 e1 e2 D0 D1 D2)[4 + ((t : Nat) : Int).toNat * 1]? = some (lmA (gD3 D0 D1 D2 t)) := by
      have h3 : t = 0 ∨ t = 1 ∨ t = 2 := by omega
      rcases h3 with rfl | rfl | rfl <;> rfl
    generalize hE : gi [e0, e1, e2] (t : Nat) = E at *
    generalize gD3 D0 D1 D2 t = D at *
    generalize hC : jcC x e0 e1 e2 D0 D1 D2 = C at *
    have l0 : C[0]? = some (isl x) := by rw [← hC]; rfl
    have l1' : C[1 + ((t : Nat) : Int).toNat]? = some (iv E) := by have := l1; rwa [Nat.mul_one] at this
    have l2' : C[4 + ((t : Nat) : Int).toNat]? = some (lmA D) := by have := l2; rwa [Nat.mul_one] at this
    cases hW : within E 0 8
    · have kw := c_Within E 0 8
      rw [hW] at kw
      repeat' first
       | refine v_seq ?_ | refine v_block ?_ | refine v_ret ?_ | refine v_skip ?_ | (refine v_exit ?_; repeat' first | refine xB_eq ?_ | refine xB_ne rfl ?_)
       | ((first | refine rgA fun K hK => ?_ | refine rgB rfl fun K hK => ?_ | refine rgC rfl fun K hK => ?_); simp only [go_sem,simprocAttr,hd2,l0,l1,l1',l2,l2',n0])
       | (simp (disch := first | omega | rfl | (simp only [lnn]; omega)) only [spl])
       | (refine hK _ ?_; clear hK K)
       | (refine gdB_intro (fun h => ?_) (fun h => ?_) <;> simp only [go_sem,simprocAttr,h,hd2,l0,l1,l1',l2,l2',n0] <;> (have h' := h; try simp only [bl] at h'))
       | (refine v_cond rfl (fun h => ?_) (fun h => ?_) <;> first | (exact Bool.noConfusion h) | (have h' := h; try simp only [bl] at h'))
       | (refine r_ret ?_; simp only [resL, resA, Tryz.f11, lk_cons', lk_nil', Nat.reduceBEq]; first | exact ⟨rfl, Sb.nil _, rfl⟩ | refine ⟨rfl, sbt ?_, rfl⟩ | refine ⟨rfl, Sb.of_eq ?_, rfl⟩)
       | (refine And.intro (by first | exact True.intro | omega | rfl | exact Nat.le_of_ble_eq_true rfl | (simp only [lnn]; omega) | exact List.forall_mem_nil _ | (refine List.forall_mem_cons.2 ⟨⟨_, rfl⟩, ?_⟩; repeat' first | exact List.forall_mem_nil _ | refine List.forall_mem_cons.2 ⟨⟨_, rfl⟩, ?_⟩)) ?_)
       | ((first | refine call_pure' (kw) rfl ?_); simp only [go_sem,simprocAttr,hd2,l0,l1,l1',l2,l2',n0])
       | (simp only [go_sem,simprocAttr,l0,l1,l1',l2,l2'])
       | fail
      all_goals rfl
    have kw := c_Within E 0 8
    rw [hW] at kw
    cases hD10 : decide (10 < (D.length : Int))
    rotate_left
    · repeat' first
       | refine v_seq ?_ | refine v_block ?_ | refine v_ret ?_ | refine v_skip ?_ | (refine v_exit ?_; repeat' first | refine xB_eq ?_ | refine xB_ne rfl ?_)
       | ((first | refine rgA fun K hK => ?_ | refine rgB rfl fun K hK => ?_ | refine rgC rfl fun K hK => ?_); simp only [go_sem,simprocAttr,hd2,l0,l1,l1',l2,l2',hD10,n0])
       | (simp (disch := first | omega | rfl | (simp only [lnn]; omega)) only [spl])
       | (refine hK _ ?_; clear hK K)
       | (refine gdB_intro (fun h => ?_) (fun h => ?_) <;> simp only [go_sem,simprocAttr,h,hd2,l0,l1,l1',l2,l2',hD10,n0] <;> (have h' := h; try simp only [bl] at h'))
       | (refine v_cond rfl (fun h => ?_) (fun h => ?_) <;> first | (exact Bool.noConfusion h) | (have h' := h; try simp only [bl] at h'))
       | (refine r_ret ?_; simp only [resL, resA, Tryz.f11, lk_cons', lk_nil', Nat.reduceBEq]; first | exact ⟨rfl, Sb.nil _, rfl⟩ | refine ⟨rfl, sbt ?_, rfl⟩ | refine ⟨rfl, Sb.of_eq ?_, rfl⟩)
       | (refine And.intro (by first | exact True.intro | omega | rfl | exact Nat.le_of_ble_eq_true rfl | (simp only [lnn]; omega) | exact List.forall_mem_nil _ | (refine List.forall_mem_cons.2 ⟨⟨_, rfl⟩, ?_⟩; repeat' first | exact List.forall_mem_nil _ | refine List.forall_mem_cons.2 ⟨⟨_, rfl⟩, ?_⟩)) ?_)
       | ((first | refine call_pure' (kw) rfl ?_); simp only [go_sem,simprocAttr,hd2,l0,l1,l1',l2,l2',hD10,n0])
       | (simp only [go_sem,simprocAttr,l0,l1,l1',l2,l2'])
       | fail
      all_goals rfl
    have hE8 := within_iff.1 hW
    obtain ⟨e, rfl⟩ : ∃ e : Nat, E = e := ⟨E.toNat, by omega⟩
    have hD10' : D.length ≤ 10 := by have := of_decide_eq_false hD10; omega
    repeat' first
     | refine v_seq ?_ | refine v_block ?_ | refine v_ret ?_ | refine v_skip ?_ | (refine v_exit ?_; repeat' first | refine xB_eq ?_ | refine xB_ne rfl ?_)
     | ((first | refine rgA fun K hK => ?_ | refine rgB rfl fun K hK => ?_ | refine rgC rfl fun K hK => ?_); simp only [go_sem,simprocAttr,hd2,l0,l1,l1',l2,l2',hD10,n0])
     | (simp (disch := first | omega | rfl | (simp only [lnn]; omega)) only [spl])
     | (refine hK _ ?_; clear hK K)
     | (refine gdB_intro (fun h => ?_) (fun h => ?_) <;> simp only [go_sem,simprocAttr,h,hd2,l0,l1,l1',l2,l2',hD10,n0] <;> (have h' := h; try simp only [bl] at h'))
     | (refine v_cond rfl (fun h => ?_) (fun h => ?_) <;> first | (exact Bool.noConfusion h) | (have h' := h; try simp only [bl] at h'))
     | (refine r_ret ?_; simp only [resL, resA, Tryz.f11, lk_cons', lk_nil', Nat.reduceBEq]; first | exact ⟨rfl, Sb.nil _, rfl⟩ | refine ⟨rfl, sbt ?_, rfl⟩ | refine ⟨rfl, Sb.of_eq ?_, rfl⟩)
     | (refine And.intro (by first | exact True.intro | omega | rfl | exact Nat.le_of_ble_eq_true rfl | (simp only [lnn]; omega) | exact List.forall_mem_nil _ | (refine List.forall_mem_cons.2 ⟨⟨_, rfl⟩, ?_⟩; repeat' first | exact List.forall_mem_nil _ | refine List.forall_mem_cons.2 ⟨⟨_, rfl⟩, ?_⟩)) ?_)
     | ((first | refine call_pure' (kw) rfl ?_); simp only [go_sem,simprocAttr,hd2,l0,l1,l1',l2,l2',hD10,n0])
     | (simp only [go_sem,simprocAttr,l0,l1,l1',l2,l2'])
     | fail
    obtain ⟨cl, hcl⟩ : ∃ cl, cl = List.replicate e 0 ++ x := ⟨_, rfl⟩
    have hcll : cl.length = e + x.length := by rw [hcl]; simp
    have y0 : (Y == R) = false := beq_ne (by omega)
    have y1 : (R == Y) = false := beq_ne (by omega)
    have y2 : (Y == 1) = false := beq_ne (by omega)
    have y3 : (1 == Y) = false := beq_ne (by omega)
    have y4 : (R == 1) = false := beq_ne (by omega)
    have y5 : (1 == R) = false := beq_ne (by omega)
    have y6 : (Y + 1 == Y) = false := beq_ne (by omega)
    have y7 : (Y == Y + 1) = false := beq_ne (by omega)
    have y8 : (Y + 1 == R) = false := beq_ne (by omega)
    have y9 : (R == Y + 1) = false := beq_ne (by omega)
    have y10 : (Y + 1 == 1) = false := beq_ne (by omega)
    have y11 : (1 == Y + 1) = false := beq_ne (by omega)
    refine v_drawTJ evOk rfl [0, 1, 2, 5] (.cons 3 (.cons 4 (.cons 6 (.cons 7 (.cons 8 .nil .nil) .nil) .nil) (.cons 6 (.cons 4 (.cons 7 (.cons 8 .nil .nil) .nil) .nil) .nil)) (.cons 6 (.cons 3 (.cons 4 (.cons 7 (.cons 8 .nil .nil) .nil) .nil) .nil) .nil)) (by kernel_rfl)
      ⟨[(1, .pt C 0), (3, iv x.length), (6, .ls R 0 3 t), (7, .lp 1 0), (8, iv t), (9, .ls (Y + 1) 0 1 (e + x.length))], hls [(1, sndC sds), (R, tcs ts), (Y + 1, ints cl)], Y + 2, (480, 0, 0)⟩ (fun _ _ e h => vc_ent e h) ?_ ?_
    rotate_left
    · intro K hK
      simp only [go_sem,simprocAttr,OT.isNil,List.filterMap_cons,List.filterMap_nil,l0,l1,l1',l2,l2',hls,hset_at,hset_hset]
      repeat' first
        | exact wpK_nil
        | (refine wpK_cons rfl ?_ ?_ <;> try simp only [go_sem,simprocAttr,OT.isNil,l0,l1,l1',l2,l2',hls,hset_at,hset_hset,y0,y1,y2,y3,y4,y5,y6,y7,y8,y9,y10,y11])
        | (refine hK _ ?_; clear hK K)
        | (simp (disch := first | omega | rfl | (simp only [lnn]; omega)) only [spl])
        | (refine And.intro (by first | exact True.intro | omega | (simp only [List.length_replicate]; omega)) ?_)
        | (simp only [go_sem,simprocAttr,OT.isNil,l0,l1,l1',l2,l2',hls,hset_at,hset_hset,y0,y1,y2,y3,y4,y5,y6,y7,y8,y9,y10,y11])
        | fail
      all_goals
        simp only [Int.toNat_natCast]
        refine ent_rows [(1, sndC sds), (R, tcs ts), (Y + 1, ints cl)] (by (repeat' first | exact trivial | refine ⟨?_, ?_⟩ | rfl | (refine congrArg (fun z => some (AV.v (Value.int .i64 z))) ?_; omega))) rfl ⟨⟨?_, by (first | omega | (dsimp only; omega))⟩, ⟨?_, by (first | omega | (dsimp only; omega))⟩, ⟨?_, by (first | omega | (dsimp only; omega))⟩, True.intro⟩ (Nat.le_refl _)
        · simp [hset', hls, y0, y1, y2, y3, y4, y5, y6, y7, y8, y9, y10, y11]
        · simp [hset', hls, y0, y1, y2, y3, y4, y5, y6, y7, y8, y9, y10, y11]
        · simp [hset', hls, y0, y1, y2, y3, y4, y5, y6, y7, y8, y9, y10, y11, hcl]
    have hsp := sndC_plain sds
    have hs3 : (sndC sds).length = 3 := by have := hLp.sl; simp [sndC]; omega
    have htp := tcs_plain ts
    refine vc_ent ((ent_freezeH (Y + 1) (c := ints cl) (by simp [hls, hset', y0, y1, y2, y3, y4, y5, y6, y7, y8, y9, y10, y11]) (ints_plain _)).trans (ent_rows (fr := [(1, .pt C 0), (3, iv x.length), (6, .ls R 0 3 t), (7, .lp 1 0), (8, iv t), (9, isl cl)]) [(1, sndC sds), (R, tcs ts)] ?_ rfl ⟨⟨?_, by (first | omega | (dsimp only; omega))⟩, ⟨?_, by (first | omega | (dsimp only; omega))⟩, True.intro⟩ (Nat.le_refl _))) ?_
    · have f1 : AV.fz (Y + 1) (ints cl) (.ls (Y + 1) 0 1 (e + x.length)) = isl cl := fz_isl (by omega)
      have f2 : AV.fz (Y + 1) (ints cl) (.ls R 0 3 t) = .ls R 0 3 t := by simp only [AV.fz, y8, cond_false]
      have f3 : AV.fz (Y + 1) (ints cl) (.lp 1 0) = .lp 1 0 := by simp only [AV.fz, y10, cond_false]
      have f4 : AV.fz (Y + 1) (ints cl) (.pt C 0) = .pt C 0 := rfl
      simp only [fzF, f1, f2, f3, f4, fz_other]
      (repeat' first | exact trivial | refine ⟨?_, ?_⟩ | rfl | (refine congrArg (fun z => some (AV.v (Value.int .i64 z))) ?_; omega))
    · simp [hfz, hls, hset', y0, y1, y2, y3, y4, y5, y6, y7, y8, y9, y10, y11, fz_plainL _ _ hsp]
    · simp [hfz, hls, hset', y0, y1, y2, y3, y4, y5, y6, y7, y8, y9, y10, y11, fz_plainL _ _ htp]
    have hlx := lag_some x (shiftedL x e 1 x.length) (limit := 8) (by omega)
    obtain ⟨b1, o1, hok⟩ := hlx
    obtain ⟨hb1, ho1⟩ := shifted_one hne (L := 8) (by omega) hok
    rw [shifted_app, ← hcl] at hok ho1
    subst hb1
    have hsc : signalErr cl = 0 := by
      rw [hcl]
      refine signalErr_of ?_ (by simp; omega)
      unfold areSamples at sx ⊢
      rw [List.all_append, sx, Bool.and_true, List.all_eq_true]
      intro v hv
      rw [(List.mem_replicate.1 hv).2]; rfl
    have kl := c_LagOf x cl 8 _ o1 (by unfold lagE; rw [hSx0, hsc]; rfl) hok
    have kcx := c_CopyInts x lx
    have lcl : Len cl.length := by unfold Len; omega
    have kcc := c_CopyInts cl lcl
    have kfc := f_CopyInts cl lcl
    generalize corr x cl (e : Nat) = v1 at *
    have hm0 : decide (v1 - o1 ≤ 0) = false := decide_eq_false (by omega)
    have t3 : ∀ a b c : AV, List.take 3 [a, b, c] = [a, b, c] := fun _ _ _ => rfl
    have sp3 : ∀ a b c x y z : AV, splice [a, b, c] 0 [x, y, z] = [x, y, z] := fun _ _ _ _ _ _ => rfl
    repeat' first
     | refine v_seq ?_ | refine v_block ?_ | refine v_ret ?_ | refine v_skip ?_ | (refine v_exit ?_; repeat' first | refine xB_eq ?_ | refine xB_ne rfl ?_)
     | ((first | refine rgA fun K hK => ?_ | refine rgB rfl fun K hK => ?_ | refine rgC rfl fun K hK => ?_); simp only [go_sem,simprocAttr,hd2,l0,l1,l1',l2,l2',hm0,n0,t3,sp3,hls,hset_at,hset_hset,y0,y1,y2,y3,y4,y5,bne_self_eq_false])
     | (simp (disch := first | omega | rfl | (simp only [lnn]; omega)) only [spl])
     | (refine hK _ ?_; clear hK K)
     | (refine gdB_intro (fun h => ?_) (fun h => ?_) <;> simp only [go_sem,simprocAttr,h,hd2,l0,l1,l1',l2,l2',hm0,n0,t3,sp3,hls,hset_at,hset_hset,y0,y1,y2,y3,y4,y5,bne_self_eq_false] <;> (have h' := h; try simp only [bl] at h'))
     | (refine v_cond rfl (fun h => ?_) (fun h => ?_) <;> first | (exact Bool.noConfusion h) | (have h' := h; try simp only [bl] at h'))
     | (refine r_ret ?_; simp only [resL, resA, Tryz.f11, lk_cons', lk_nil', Nat.reduceBEq]; first | exact ⟨rfl, Sb.nil _, rfl⟩ | refine ⟨rfl, sbt ?_, rfl⟩ | refine ⟨rfl, Sb.of_eq ?_, rfl⟩)
     | (refine And.intro (by first | exact True.intro | omega | rfl | exact Nat.le_of_ble_eq_true rfl | (simp only [lnn]; omega) | exact List.forall_mem_nil _ | (refine List.forall_mem_cons.2 ⟨⟨_, rfl⟩, ?_⟩; repeat' first | exact List.forall_mem_nil _ | refine List.forall_mem_cons.2 ⟨⟨_, rfl⟩, ?_⟩)) ?_)
     | ((first | refine call_pure' (kcx) rfl ?_ | refine call_pure' (kcc) rfl ?_ | refine call_pure' (kl) rfl ?_); simp only [go_sem,simprocAttr,hd2,l0,l1,l1',l2,l2',hm0,n0,t3,sp3,hls,hset_at,hset_hset,y0,y1,y2,y3,y4,y5,bne_self_eq_false])
     | (simp only [go_sem,simprocAttr,l0,l1,l1',l2,l2',t3,sp3,hls,hset_at,hset_hset,y0,y1,y2,y3,y4,y5])
     | fail
    obtain ⟨rb, hrb⟩ : ∃ rb, rb = Y + 3 := ⟨_, rfl⟩
    have z0 : (rb == R) = false := beq_ne (by omega)
    have z1 : (R == rb) = false := beq_ne (by omega)
    have z2 : (rb == 1) = false := beq_ne (by omega)
    have z3 : (1 == rb) = false := beq_ne (by omega)
    have z4 : (Y + 2 == rb) = false := beq_ne (by omega)
    have z5 : (rb == Y + 2) = false := beq_ne (by omega)
    have z6 : (Y + 2 == R) = false := beq_ne (by omega)
    have z7 : (R == Y + 2) = false := beq_ne (by omega)
    have z8 : (Y + 2 == 1) = false := beq_ne (by omega)
    have z9 : (1 == Y + 2) = false := beq_ne (by omega)
    have w0 : (Y + 2 + 1 == R) = false := beq_ne (by omega)
    have w1 : (Y + 2 + 1 == 1) = false := beq_ne (by omega)
    have w2 : (Y + 2 + 1 == Y + 2) = false := beq_ne (by omega)
    have w3 : (R == Y + 2 + 1) = false := beq_ne (by omega)
    have w4 : (1 == Y + 2 + 1) = false := beq_ne (by omega)
    have w5 : (Y + 2 == Y + 2 + 1) = false := beq_ne (by omega)
    refine vc_ent (ent_rows (fr := [(1, .pt C 0), (3, iv x.length), (6, .ls R 0 3 t), (7, .lp 1 0), (8, iv t), (9, isl cl), (10, .lp (Y + 2) 0), (12, iv 0)]) [(1, (sndC sds).set t (.ls rb 0 1 x.length)), (R, tcs ts), (rb, bools (List.replicate x.length false)), (Y + 2, [iv e, iv v1, iv (v1 - o1)])] (by (repeat' first | exact trivial | refine ⟨?_, ?_⟩ | rfl | (refine congrArg (fun z => some (AV.v (Value.int .i64 z))) ?_; omega))) rfl ⟨⟨?_, by (first | omega | (dsimp only; omega))⟩, ⟨?_, by (first | omega | (dsimp only; omega))⟩, ⟨?_, by (first | omega | (dsimp only; omega))⟩, ⟨?_, by (first | omega | (dsimp only; omega))⟩, True.intro⟩ (Nat.le_refl _)) ?_
    · simp [hset', hls, hrb, z0, z1, z2, z3, z4, z5, z6, z7, z8, z9, splice]
      rw [List.set_eq_take_append_cons_drop, if_pos (by omega)]
    · simp only [hset', hls, w0, w1, w2, w3, w4, w5, z0, z1, z2, z3, z4, z5, z6, z7, z8, z9, y4, y5, beq_self_eq_true]
    · rw [hrb]
      simp only [hset', hls, w0, w1, w2, w3, w4, w5, z0, z1, z2, z3, z4, z5, z6, z7, z8, z9, y4, y5, show (Y + 2 + 1 == Y + 3) = true from beq_self_eq_true _, show (1 == Y + 3) = false from w4]
      refine congrArg some ?_
      rw [zrep_sing]
      unfold bools
      rw [List.map_replicate, Int.toNat_natCast]
    · simp only [hset', hls, w0, w1, w2, w3, w4, w5, z0, z1, z2, z3, z4, z5, z6, z7, z8, z9, y4, y5, beq_self_eq_true]
    refine vc_ent ((ent_freezeH (Y + 2) (c := [iv e, iv v1, iv (v1 - o1)]) (by simp only [hls, hset', z0, z1, z2, z3, z4, z5, z6, z7, z8, z9, beq_self_eq_true]) rfl).trans (ent_rows (fr := [(1, .pt C 0), (3, iv x.length), (6, .ls R 0 3 t), (7, .lp 1 0), (8, iv t), (9, isl cl), (10, .pt [iv e, iv v1, iv (v1 - o1)] 0), (12, iv 0)]) [(1, (sndC sds).set t (.ls rb 0 1 x.length)), (R, tcs ts), (rb, bools (List.replicate x.length false))] ?_ rfl ⟨⟨?_, by (first | omega | (dsimp only; omega))⟩, ⟨?_, by (first | omega | (dsimp only; omega))⟩, ⟨?_, by (first | omega | (dsimp only; omega))⟩, True.intro⟩ (Nat.le_refl _))) ?_
    · have f1 : AV.fz (Y + 2) [iv e, iv v1, iv (v1 - o1)] (.ls R 0 3 t) = .ls R 0 3 t := by simp only [AV.fz, z6, cond_false]
      have f2 : AV.fz (Y + 2) [iv e, iv v1, iv (v1 - o1)] (.lp 1 0) = .lp 1 0 := by simp only [AV.fz, z8, cond_false]
      have f3 : AV.fz (Y + 2) [iv e, iv v1, iv (v1 - o1)] (.lp (Y + 2) 0) = .pt [iv e, iv v1, iv (v1 - o1)] 0 := by simp only [AV.fz, beq_self_eq_true, cond_true]
      have f4 : AV.fz (Y + 2) [iv e, iv v1, iv (v1 - o1)] (.pt C 0) = .pt C 0 := rfl
      simp only [fzF, f1, f2, f3, f4, fz_other, isl, fz_sl]
      (repeat' first | exact trivial | refine ⟨?_, ?_⟩ | rfl | (refine congrArg (fun z => some (AV.v (Value.int .i64 z))) ?_; omega))
    · have f1 : AV.fz (Y + 2) [iv e, iv v1, iv (v1 - o1)] (.ls rb 0 1 x.length) = .ls rb 0 1 x.length := by simp only [AV.fz, z4, cond_false]
      simp only [hfz', hls, hset', z0, z1, z2, z3, z4, z5, z6, z7, z8, z9, y4, y5, beq_self_eq_true, Option.map_some, List.map_set, f1, fz_plainL _ _ hsp]
    · simp only [hfz', hls, hset', z0, z1, z2, z3, z4, z5, z6, z7, z8, z9, y4, y5, beq_self_eq_true, Option.map_some, fz_plainL _ _ htp]
    · simp only [hfz', hls, hset', z0, z1, z2, z3, z4, z5, z6, z7, z8, z9, y4, y5, beq_self_eq_true, Option.map_some, fz_plainL _ _ (bools_plain _)]
    refine v_loop (T := Nat) (fun i => ⟨[(1, .pt C 0), (3, iv x.length), (6, .ls R 0 3 t), (7, .lp 1 0), (8, iv t), (9, isl cl), (10, .pt [iv e, iv v1, iv (v1 - o1)] 0), (12, iv i)], hls [(1, (sndC sds).set t (.ls rb 0 1 x.length)), (R, tcs ts), (rb, bools (List.replicate i true ++ List.replicate (x.length - i) false))], Y + 4, (480, 0, 0)⟩) (fun i => i ≤ x.length) (fun i => x.length - i) 0 (by omega) ?_ ?_
    · exact ent_rows [(1, (sndC sds).set t (.ls rb 0 1 x.length)), (R, tcs ts), (rb, bools (List.replicate x.length false))] (by (repeat' first | exact trivial | refine ⟨?_, ?_⟩ | rfl | (refine congrArg (fun z => some (AV.v (Value.int .i64 z))) ?_; omega))) rfl ⟨⟨(by simp only [hls, hset', z0, z1, z2, z3, z4, z5, z6, z7, z8, z9, y4, y5, beq_self_eq_true]), by (first | omega | (dsimp only; omega))⟩, ⟨(by simp only [hls, hset', z0, z1, z2, z3, z4, z5, z6, z7, z8, z9, y4, y5, beq_self_eq_true]), by (first | omega | (dsimp only; omega))⟩, ⟨(by simp only [hls, hset', z0, z1, z2, z3, z4, z5, z6, z7, z8, z9, y4, y5, beq_self_eq_true]), by (first | omega | (dsimp only; omega))⟩, True.intro⟩ (Nat.le_refl _)
    intro i hi
    have sg1 : ((sndC sds).set t (.ls rb 0 1 x.length))[((t : Nat) : Int).toNat * 1]? = some (.ls rb 0 1 x.length) := by rw [Int.toNat_natCast, Nat.mul_one, List.getElem?_set_self (by omega)]
    have sg1' : ((sndC sds).set t (.ls rb 0 1 x.length))[((t : Nat) : Int).toNat]? = some (.ls rb 0 1 x.length) := by rw [Int.toNat_natCast, List.getElem?_set_self (by omega)]
    have hsl3 : ((sndC sds).set t (.ls rb 0 1 x.length)).length = 3 := by rw [List.length_set]; exact hs3
    by_cases hi2 : i < x.length
    · have hd3 : decide ((i : Int) < x.length) = true := decide_eq_true (by omega)
      have hbl : (bools (List.replicate i true ++ List.replicate (x.length - i) false)).length = x.length := by rw [bools_len]; simp; omega
      have hbs : splice (bools (List.replicate i true ++ List.replicate (x.length - i) false)) i [.v (.bool true)] = bools (List.replicate (i + 1) true ++ List.replicate (x.length - (i + 1)) false) := by
        refine (bools_splice true (by simp; omega)).trans (congrArg bools ?_)
        rw [List.set_append_right _ _ (by simp), List.length_replicate, Nat.sub_self, show x.length - i = x.length - (i + 1) + 1 by omega, List.replicate_succ, List.set_cons_zero, List.replicate_succ']
        simp
      repeat' first
       | refine v_seq ?_ | refine v_block ?_ | refine v_ret ?_ | refine v_skip ?_ | (refine v_exit ?_; repeat' first | refine xB_eq ?_ | refine xB_ne rfl ?_)
       | ((first | refine rgA fun K hK => ?_ | refine rgB rfl fun K hK => ?_ | refine rgC rfl fun K hK => ?_); simp only [go_sem,simprocAttr,hd3,sg1,sg1',hsl3,hbl,n0,hls,hset_at,hset_hset,z0,z1,z2,z3,y4,y5])
       | (simp (disch := first | omega | rfl | (simp only [lnn]; omega)) only [spl])
       | (refine hK _ ?_; clear hK K)
       | (refine gdB_intro (fun h => ?_) (fun h => ?_) <;> simp only [go_sem,simprocAttr,h,hd3,sg1,sg1',hsl3,hbl,n0,hls,hset_at,hset_hset,z0,z1,z2,z3,y4,y5] <;> (have h' := h; try simp only [bl] at h'))
       | (refine v_cond rfl (fun h => ?_) (fun h => ?_) <;> first | (exact Bool.noConfusion h) | (have h' := h; try simp only [bl] at h'))
       | (refine r_ret ?_; simp only [resL, resA, Tryz.f11, lk_cons', lk_nil', Nat.reduceBEq]; first | exact ⟨rfl, Sb.nil _, rfl⟩ | refine ⟨rfl, sbt ?_, rfl⟩ | refine ⟨rfl, Sb.of_eq ?_, rfl⟩)
       | (refine And.intro (by first | exact True.intro | omega | rfl | exact Nat.le_of_ble_eq_true rfl | (simp only [lnn]; omega) | exact List.forall_mem_nil _ | (refine List.forall_mem_cons.2 ⟨⟨_, rfl⟩, ?_⟩; repeat' first | exact List.forall_mem_nil _ | refine List.forall_mem_cons.2 ⟨⟨_, rfl⟩, ?_⟩)) ?_)
       | (simp only [go_sem,simprocAttr,sg1,sg1',hsl3,hbl,hls,hset_at,hset_hset,z0,z1,z2,z3,y4,y5])
       | fail
      refine ⟨i + 1, ?_, by omega, by omega⟩
      exact ent_rows [(1, (sndC sds).set t (.ls rb 0 1 x.length)), (R, tcs ts), (rb, bools (List.replicate (i + 1) true ++ List.replicate (x.length - (i + 1)) false))] (by (repeat' first | exact trivial | refine ⟨?_, ?_⟩ | rfl | (refine congrArg (fun z => some (AV.v (Value.int .i64 z))) ?_; omega))) rfl ⟨⟨(by simp only [hls, hset', z0, z1, z2, z3, z4, z5, z6, z7, z8, z9, y4, y5, beq_self_eq_true]), by (first | omega | (dsimp only; omega))⟩, ⟨(by simp only [hls, hset', z0, z1, z2, z3, z4, z5, z6, z7, z8, z9, y4, y5, beq_self_eq_true]), by (first | omega | (dsimp only; omega))⟩, ⟨(by simp only [hls, hset', z0, z1, z2, z3, z4, z5, z6, z7, z8, z9, y4, y5, Int.toNat_natCast, hbs, beq_self_eq_true]), by (first | omega | (dsimp only; omega))⟩, True.intro⟩ (Nat.le_refl _)
    · obtain rfl : i = x.length := by omega
      have hd3 : decide ((x.length : Int) < x.length) = false := decide_eq_false (by omega)
      rw [Nat.sub_self, List.replicate_zero, List.append_nil]
      repeat' first
       | refine v_seq ?_ | refine v_block ?_ | refine v_ret ?_ | refine v_skip ?_ | (refine v_exit ?_; repeat' first | refine xB_eq ?_ | refine xB_ne rfl ?_)
       | ((first | refine rgA fun K hK => ?_ | refine rgB rfl fun K hK => ?_ | refine rgC rfl fun K hK => ?_); simp only [go_sem,simprocAttr,hd3,n0,hls])
       | (simp (disch := first | omega | rfl | (simp only [lnn]; omega)) only [spl])
       | (refine hK _ ?_; clear hK K)
       | (refine gdB_intro (fun h => ?_) (fun h => ?_) <;> simp only [go_sem,simprocAttr,h,hd3,n0,hls] <;> (have h' := h; try simp only [bl] at h'))
       | (refine v_cond rfl (fun h => ?_) (fun h => ?_) <;> first | (exact Bool.noConfusion h) | (have h' := h; try simp only [bl] at h'))
       | (refine r_ret ?_; simp only [resL, resA, Tryz.f11, lk_cons', lk_nil', Nat.reduceBEq]; first | exact ⟨rfl, Sb.nil _, rfl⟩ | refine ⟨rfl, sbt ?_, rfl⟩ | refine ⟨rfl, Sb.of_eq ?_, rfl⟩)
       | (refine And.intro (by first | exact True.intro | omega | rfl | exact Nat.le_of_ble_eq_true rfl | (simp only [lnn]; omega) | exact List.forall_mem_nil _ | (refine List.forall_mem_cons.2 ⟨⟨_, rfl⟩, ?_⟩; repeat' first | exact List.forall_mem_nil _ | refine List.forall_mem_cons.2 ⟨⟨_, rfl⟩, ?_⟩)) ?_)
       | (refine call_fresh kfc (SbL.refl _) rfl ?_; simp only [cmK, go_sem,simprocAttr,hset_at,hset_hset,z0,z1,z2,z3,z4,z5,z6,z7,z8,z9,y4,y5])
       | fail
      obtain ⟨rs, hrs⟩ : ∃ rs, rs = Y + 4 := ⟨_, rfl⟩
      rw [← hrs]
      have v0 : (rs == R) = false := beq_ne (by omega)
      have v1' : (R == rs) = false := beq_ne (by omega)
      have v2 : (rs == 1) = false := beq_ne (by omega)
      have v3 : (1 == rs) = false := beq_ne (by omega)
      have v4 : (rs == rb) = false := beq_ne (by omega)
      have v5 : (rb == rs) = false := beq_ne (by omega)
      refine v_loop (T := LdT) (fun s => ⟨[(1, .pt C 0), (3, iv x.length), (6, .ls R 0 3 t), (7, .lp 1 0), (8, iv t), (10, .pt [iv e, iv v1, iv (v1 - o1)] 0), (13, .ls rs 0 1 (e + x.length)), (14, iv s.k)], hls [(1, (sndC sds).set t (.ls rb 0 1 x.length)), (R, tcs ts), (rb, bools s.sd), (rs, ints s.sp)], s.Y, (480, 0, 0)⟩)
        (fun s => Own x e s.k s.sp s.sd ∧ s.k ≤ D.length ∧ rs < s.Y) (fun s => D.length - s.k) ⟨0, cl, List.replicate x.length true, rs + 1⟩ ⟨hcl ▸ own_zero x e, by (first | omega | (dsimp only; omega)), by (first | omega | (dsimp only; omega))⟩ ?_ ?_
      · refine ent_rows [(1, (sndC sds).set t (.ls rb 0 1 x.length)), (R, tcs ts), (rb, bools (List.replicate x.length true)), (rs, ints cl)] (by rw [← hcll]; (repeat' first | exact trivial | refine ⟨?_, ?_⟩ | rfl | (refine congrArg (fun z => some (AV.v (Value.int .i64 z))) ?_; omega))) rfl ⟨⟨(by simp only [hls, hset', z0, z1, z2, z3, y4, y5, v0, v1', v2, v3, v4, v5, beq_self_eq_true]), by (first | omega | (dsimp only; omega))⟩, ⟨(by simp only [hls, hset', z0, z1, z2, z3, y4, y5, v0, v1', v2, v3, v4, v5, beq_self_eq_true]), by (first | omega | (dsimp only; omega))⟩, ⟨(by simp only [hls, hset', z0, z1, z2, z3, y4, y5, v0, v1', v2, v3, v4, v5, beq_self_eq_true]), by (first | omega | (dsimp only; omega))⟩, ⟨(by simp only [hls, hset', z0, z1, z2, z3, y4, y5, v0, v1', v2, v3, v4, v5, beq_self_eq_true]), by (first | omega | (dsimp only; omega))⟩, True.intro⟩ (by (first | omega | (dsimp only; omega)))
      rintro ⟨k, sp, sd, Y2⟩ ⟨hown, hkD, hY2'⟩
      dsimp only at hown hkD hY2' ⊢
      have hspl := hown.spl
      have hsdl := hown.sdl
      have u0 : (Y2 == R) = false := beq_ne (by omega)
      have u1 : (R == Y2) = false := beq_ne (by omega)
      have u2 : (Y2 == 1) = false := beq_ne (by omega)
      have u3 : (1 == Y2) = false := beq_ne (by omega)
      have u4 : (Y2 == rb) = false := beq_ne (by omega)
      have u5 : (rb == Y2) = false := beq_ne (by omega)
      have u6 : (Y2 == rs) = false := beq_ne (by omega)
      have u7 : (rs == Y2) = false := beq_ne (by omega)
      have sg1 : ((sndC sds).set t (.ls rb 0 1 x.length))[((t : Nat) : Int).toNat * 1]? = some (.ls rb 0 1 x.length) := by rw [Int.toNat_natCast, Nat.mul_one, List.getElem?_set_self (by omega)]
      have sg1' : ((sndC sds).set t (.ls rb 0 1 x.length))[((t : Nat) : Int).toNat]? = some (.ls rb 0 1 x.length) := by rw [Int.toNat_natCast, List.getElem?_set_self (by omega)]
      have hsl3 : ((sndC sds).set t (.ls rb 0 1 x.length)).length = 3 := by rw [List.length_set]; exact hs3
      by_cases hk2 : k < D.length
      · have hd4 : decide ((k : Int) < D.length) = true := decide_eq_true (by omega)
        have hfl : (ints (flatL D)).length = D.length * 3 := by rw [ints_length, flatL_length]
        have gl1 := lm_take hk2
        generalize (gl D k).a = a at *
        generalize (gl D k).b = b at *
        generalize (gl D k).d = d at *
        have ka := c_Within a 0 ((x.length : Int) - 1)
        have kd := c_Within d 1 10000
        cases hA : within a 0 ((x.length : Int) - 1)
        · rw [hA] at ka
          repeat' first
           | refine v_seq ?_ | refine v_block ?_ | refine v_ret ?_ | refine v_skip ?_ | (refine v_exit ?_; repeat' first | refine xB_eq ?_ | refine xB_ne rfl ?_)
           | ((first | refine rgA fun K hK => ?_ | refine rgB rfl fun K hK => ?_ | refine rgC rfl fun K hK => ?_); simp only [go_sem,simprocAttr,hd4,l2,l2',sg1,sg1',hsl3,hfl,gl1,ints3,t3,sp3,n0,hls,hset_at,hset_hset,z0,z1,z2,z3,y4,y5,v0,v1',v2,v3,v4,v5,u0,u1,u2,u3,u4,u5,u6,u7])
           | (simp (disch := first | omega | rfl | (simp only [lnn]; omega)) only [spl])
           | (refine hK _ ?_; clear hK K)
           | (refine gdB_intro (fun h => ?_) (fun h => ?_) <;> simp only [go_sem,simprocAttr,h,hd4,l2,l2',sg1,sg1',hsl3,hfl,gl1,ints3,t3,sp3,n0,hls,hset_at,hset_hset,z0,z1,z2,z3,y4,y5,v0,v1',v2,v3,v4,v5,u0,u1,u2,u3,u4,u5,u6,u7] <;> (have h' := h; try simp only [bl] at h'))
           | (refine v_cond rfl (fun h => ?_) (fun h => ?_) <;> first | (exact Bool.noConfusion h) | (have h' := h; try simp only [bl] at h'))
           | (refine r_ret ?_; simp only [resL, resA, Tryz.f11, lk_cons', lk_nil', Nat.reduceBEq]; first | exact ⟨rfl, Sb.nil _, rfl⟩ | refine ⟨rfl, sbt ?_, rfl⟩ | refine ⟨rfl, Sb.of_eq ?_, rfl⟩)
           | (refine And.intro (by first | exact True.intro | omega | rfl | exact Nat.le_of_ble_eq_true rfl | (simp only [lnn]; omega) | exact List.forall_mem_nil _ | (refine List.forall_mem_cons.2 ⟨⟨_, rfl⟩, ?_⟩; repeat' first | exact List.forall_mem_nil _ | refine List.forall_mem_cons.2 ⟨⟨_, rfl⟩, ?_⟩)) ?_)
           | ((first | refine call_pure' (ka) rfl ?_ | refine call_pure' (kd) rfl ?_); simp only [go_sem,simprocAttr,hd4,l2,l2',sg1,sg1',hsl3,hfl,gl1,ints3,t3,sp3,n0,hls,hset_at,hset_hset,z0,z1,z2,z3,y4,y5,v0,v1',v2,v3,v4,v5,u0,u1,u2,u3,u4,u5,u6,u7])
           | (simp only [go_sem,simprocAttr,l2,l2',sg1,sg1',hsl3,hfl,gl1,ints3,t3,sp3,hls,hset_at,hset_hset,z0,z1,z2,z3,y4,y5,v0,v1',v2,v3,v4,v5,u0,u1,u2,u3,u4,u5,u6,u7])
           | fail
          all_goals rfl
        have hAb := within_iff.1 hA
        obtain ⟨A, rfl⟩ : ∃ A : Nat, a = A := ⟨a.toNat, by omega⟩
        have hAn : A < x.length := by omega
        have hbl : (bools sd).length = x.length := by rw [bools_len]; exact hsdl
        have hil : (ints sp).length = e + x.length := by rw [ints_length]; exact hspl
        have sb1 : (bools sd)[((A : Nat) : Int).toNat * 1]? = some (.v (.bool (gb sd A))) := by rw [Int.toNat_natCast, Nat.mul_one]; exact bools_at (by omega)
        have sb1' : (bools sd)[((A : Nat) : Int).toNat]? = some (.v (.bool (gb sd A))) := by rw [Int.toNat_natCast]; exact bools_at (by omega)
        cases hDD : within d 1 10000
        · rw [hA] at ka
          rw [hDD] at kd
          repeat' first
           | refine v_seq ?_ | refine v_block ?_ | refine v_ret ?_ | refine v_skip ?_ | (refine v_exit ?_; repeat' first | refine xB_eq ?_ | refine xB_ne rfl ?_)
           | ((first | refine rgA fun K hK => ?_ | refine rgB rfl fun K hK => ?_ | refine rgC rfl fun K hK => ?_); simp only [go_sem,simprocAttr,hd4,l2,l2',sg1,sg1',hsl3,hfl,gl1,ints3,t3,sp3,n0,hls,hset_at,hset_hset,z0,z1,z2,z3,y4,y5,v0,v1',v2,v3,v4,v5,u0,u1,u2,u3,u4,u5,u6,u7])
           | (simp (disch := first | omega | rfl | (simp only [lnn]; omega)) only [spl])
           | (refine hK _ ?_; clear hK K)
           | (refine gdB_intro (fun h => ?_) (fun h => ?_) <;> simp only [go_sem,simprocAttr,h,hd4,l2,l2',sg1,sg1',hsl3,hfl,gl1,ints3,t3,sp3,n0,hls,hset_at,hset_hset,z0,z1,z2,z3,y4,y5,v0,v1',v2,v3,v4,v5,u0,u1,u2,u3,u4,u5,u6,u7] <;> (have h' := h; try simp only [bl] at h'))
           | (refine v_cond rfl (fun h => ?_) (fun h => ?_) <;> first | (exact Bool.noConfusion h) | (have h' := h; try simp only [bl] at h'))
           | (refine r_ret ?_; simp only [resL, resA, Tryz.f11, lk_cons', lk_nil', Nat.reduceBEq]; first | exact ⟨rfl, Sb.nil _, rfl⟩ | refine ⟨rfl, sbt ?_, rfl⟩ | refine ⟨rfl, Sb.of_eq ?_, rfl⟩)
           | (refine And.intro (by first | exact True.intro | omega | rfl | exact Nat.le_of_ble_eq_true rfl | (simp only [lnn]; omega) | exact List.forall_mem_nil _ | (refine List.forall_mem_cons.2 ⟨⟨_, rfl⟩, ?_⟩; repeat' first | exact List.forall_mem_nil _ | refine List.forall_mem_cons.2 ⟨⟨_, rfl⟩, ?_⟩)) ?_)
           | ((first | refine call_pure' (ka) rfl ?_ | refine call_pure' (kd) rfl ?_); simp only [go_sem,simprocAttr,hd4,l2,l2',sg1,sg1',hsl3,hfl,gl1,ints3,t3,sp3,n0,hls,hset_at,hset_hset,z0,z1,z2,z3,y4,y5,v0,v1',v2,v3,v4,v5,u0,u1,u2,u3,u4,u5,u6,u7])
           | (simp only [go_sem,simprocAttr,l2,l2',sg1,sg1',hsl3,hfl,gl1,ints3,t3,sp3,hls,hset_at,hset_hset,z0,z1,z2,z3,y4,y5,v0,v1',v2,v3,v4,v5,u0,u1,u2,u3,u4,u5,u6,u7])
           | fail
          all_goals rfl
        have hDb := within_iff.1 hDD
        cases hG : gb sd A
        · rw [hA] at ka
          rw [hDD] at kd
          rw [hG] at sb1 sb1'
          repeat' first
           | refine v_seq ?_ | refine v_block ?_ | refine v_ret ?_ | refine v_skip ?_ | (refine v_exit ?_; repeat' first | refine xB_eq ?_ | refine xB_ne rfl ?_)
           | ((first | refine rgA fun K hK => ?_ | refine rgB rfl fun K hK => ?_ | refine rgC rfl fun K hK => ?_); simp only [go_sem,simprocAttr,hd4,l2,l2',sg1,sg1',hsl3,hfl,gl1,ints3,t3,sp3,sb1,sb1',hbl,n0,hls,hset_at,hset_hset,z0,z1,z2,z3,y4,y5,v0,v1',v2,v3,v4,v5,u0,u1,u2,u3,u4,u5,u6,u7])
           | (simp (disch := first | omega | rfl | (simp only [lnn]; omega)) only [spl])
           | (refine hK _ ?_; clear hK K)
           | (refine gdB_intro (fun h => ?_) (fun h => ?_) <;> simp only [go_sem,simprocAttr,h,hd4,l2,l2',sg1,sg1',hsl3,hfl,gl1,ints3,t3,sp3,sb1,sb1',hbl,n0,hls,hset_at,hset_hset,z0,z1,z2,z3,y4,y5,v0,v1',v2,v3,v4,v5,u0,u1,u2,u3,u4,u5,u6,u7] <;> (have h' := h; try simp only [bl] at h'))
           | (refine v_cond rfl (fun h => ?_) (fun h => ?_) <;> first | (exact Bool.noConfusion h) | (have h' := h; try simp only [bl] at h'))
           | (refine r_ret ?_; simp only [resL, resA, Tryz.f11, lk_cons', lk_nil', Nat.reduceBEq]; first | exact ⟨rfl, Sb.nil _, rfl⟩ | refine ⟨rfl, sbt ?_, rfl⟩ | refine ⟨rfl, Sb.of_eq ?_, rfl⟩)
           | (refine And.intro (by first | exact True.intro | omega | rfl | exact Nat.le_of_ble_eq_true rfl | (simp only [lnn]; omega) | exact List.forall_mem_nil _ | (refine List.forall_mem_cons.2 ⟨⟨_, rfl⟩, ?_⟩; repeat' first | exact List.forall_mem_nil _ | refine List.forall_mem_cons.2 ⟨⟨_, rfl⟩, ?_⟩)) ?_)
           | ((first | refine call_pure' (ka) rfl ?_ | refine call_pure' (kd) rfl ?_); simp only [go_sem,simprocAttr,hd4,l2,l2',sg1,sg1',hsl3,hfl,gl1,ints3,t3,sp3,sb1,sb1',hbl,n0,hls,hset_at,hset_hset,z0,z1,z2,z3,y4,y5,v0,v1',v2,v3,v4,v5,u0,u1,u2,u3,u4,u5,u6,u7])
           | (simp only [go_sem,simprocAttr,l2,l2',sg1,sg1',hsl3,hfl,gl1,ints3,t3,sp3,sb1,sb1',hbl,hls,hset_at,hset_hset,z0,z1,z2,z3,y4,y5,v0,v1',v2,v3,v4,v5,u0,u1,u2,u3,u4,u5,u6,u7])
           | fail
          all_goals rfl
        · rw [hA] at ka
          rw [hDD] at kd
          rw [hG] at sb1 sb1'
          have hstep := own_step hown hAn hG hDb.1
          have hsx := sample_gi sx (A : Nat)
          have hga := hown.ok A hAn hG
          repeat' first
           | refine v_seq ?_ | refine v_block ?_ | refine v_ret ?_ | refine v_skip ?_ | (refine v_exit ?_; repeat' first | refine xB_eq ?_ | refine xB_ne rfl ?_)
           | ((first | refine rgA fun K hK => ?_ | refine rgB rfl fun K hK => ?_ | refine rgC rfl fun K hK => ?_); simp only [go_sem,simprocAttr,hd4,l0,l1,l1',l2,l2',sg1,sg1',hsl3,hfl,gl1,ints3,t3,sp3,sb1,sb1',hbl,hil,n0,hls,hset_at,hset_hset,z0,z1,z2,z3,y4,y5,v0,v1',v2,v3,v4,v5,u0,u1,u2,u3,u4,u5,u6,u7])
           | (simp (disch := first | omega | rfl | (simp only [lnn]; omega)) only [spl])
           | (refine hK _ ?_; clear hK K)
           | (refine gdB_intro (fun h => ?_) (fun h => ?_) <;> simp only [go_sem,simprocAttr,h,hd4,l0,l1,l1',l2,l2',sg1,sg1',hsl3,hfl,gl1,ints3,t3,sp3,sb1,sb1',hbl,hil,n0,hls,hset_at,hset_hset,z0,z1,z2,z3,y4,y5,v0,v1',v2,v3,v4,v5,u0,u1,u2,u3,u4,u5,u6,u7] <;> (have h' := h; try simp only [bl] at h'))
           | (refine v_cond rfl (fun h => ?_) (fun h => ?_) <;> first | (exact Bool.noConfusion h) | (have h' := h; try simp only [bl] at h'))
           | (refine r_ret ?_; simp only [resL, resA, Tryz.f11, lk_cons', lk_nil', Nat.reduceBEq]; first | exact ⟨rfl, Sb.nil _, rfl⟩ | refine ⟨rfl, sbt ?_, rfl⟩ | refine ⟨rfl, Sb.of_eq ?_, rfl⟩)
           | (refine And.intro (by first | exact True.intro | omega | rfl | exact Nat.le_of_ble_eq_true rfl | (simp only [lnn]; omega) | exact List.forall_mem_nil _ | (refine List.forall_mem_cons.2 ⟨⟨_, rfl⟩, ?_⟩; repeat' first | exact List.forall_mem_nil _ | refine List.forall_mem_cons.2 ⟨⟨_, rfl⟩, ?_⟩)) ?_)
           | ((first | refine call_pure' (ka) rfl ?_ | refine call_pure' (kd) rfl ?_); simp only [go_sem,simprocAttr,hd4,l0,l1,l1',l2,l2',sg1,sg1',hsl3,hfl,gl1,ints3,t3,sp3,sb1,sb1',hbl,hil,n0,hls,hset_at,hset_hset,z0,z1,z2,z3,y4,y5,v0,v1',v2,v3,v4,v5,u0,u1,u2,u3,u4,u5,u6,u7])
           | (simp only [go_sem,simprocAttr,l0,l1,l1',l2,l2',sg1,sg1',hsl3,hfl,gl1,ints3,t3,sp3,sb1,sb1',hbl,hil,hls,hset_at,hset_hset,z0,z1,z2,z3,y4,y5,v0,v1',v2,v3,v4,v5,u0,u1,u2,u3,u4,u5,u6,u7])
           | fail
          refine ⟨⟨k + 1, sp.set (A + e) (gi sp ((A + e : Nat) : Int) + d), sd.set A false, Y2 + 1⟩, ?_, ⟨hstep, by (first | omega | (dsimp only; omega)), by (first | omega | (dsimp only; omega))⟩, by (first | omega | (dsimp only; omega))⟩
          dsimp only
          refine ent_rows [(1, (sndC sds).set t (.ls rb 0 1 x.length)), (R, tcs ts), (rb, bools (sd.set A false)), (rs, ints (sp.set (A + e) (gi sp ((A + e : Nat) : Int) + d)))] (by (repeat' first | exact trivial | refine ⟨?_, ?_⟩ | rfl | (refine congrArg (fun z => some (AV.v (Value.int .i64 z))) ?_; omega))) rfl ⟨⟨(by simp only [hls, hset', z0, z1, z2, z3, y4, y5, v0, v1', v2, v3, v4, v5, u0, u1, u2, u3, u4, u5, u6, u7, beq_self_eq_true]), by (first | omega | (dsimp only; omega))⟩, ⟨(by simp only [hls, hset', z0, z1, z2, z3, y4, y5, v0, v1', v2, v3, v4, v5, u0, u1, u2, u3, u4, u5, u6, u7, beq_self_eq_true]), by (first | omega | (dsimp only; omega))⟩, ⟨?_, by (first | omega | (dsimp only; omega))⟩, ⟨?_, by (first | omega | (dsimp only; omega))⟩, True.intro⟩ (by (first | omega | (dsimp only; omega)))
          · simp only [hls, hset', z0, z1, z2, z3, y4, y5, v0, v1', v2, v3, v4, v5, u0, u1, u2, u3, u4, u5, u6, u7, beq_self_eq_true]
            rw [Int.toNat_natCast]
            exact congrArg some (bools_splice false (by omega))
          · simp only [hls, hset', z0, z1, z2, z3, y4, y5, v0, v1', v2, v3, v4, v5, u0, u1, u2, u3, u4, u5, u6, u7, beq_self_eq_true]
            rw [show ((A : Int) + (e : Int)) = ((A + e : Nat) : Int) by omega, Int.toNat_natCast, IntWalk.i64_in _ (by rw [hga]; omega)]
      · obtain rfl : k = D.length := by omega
        have hd4 : decide ((D.length : Int) < D.length) = false := decide_eq_false (by omega)
        refine vc_ent ((ent_freezeH rs (c := ints sp) (by simp only [hls, hset', z0, z1, z2, z3, y4, y5, v0, v1', v2, v3, v4, v5, beq_self_eq_true]) (ints_plain _)).trans (ent_rows (fr := [(1, .pt C 0), (3, iv x.length), (6, .ls R 0 3 t), (7, .lp 1 0), (8, iv t), (10, .pt [iv e, iv v1, iv (v1 - o1)] 0), (13, isl sp), (14, iv D.length)]) [(1, (sndC sds).set t (.ls rb 0 1 x.length)), (R, tcs ts), (rb, bools sd)] ?_ rfl ⟨⟨?_, by (first | omega | (dsimp only; omega))⟩, ⟨?_, by (first | omega | (dsimp only; omega))⟩, ⟨?_, by (first | omega | (dsimp only; omega))⟩, True.intro⟩ (Nat.le_refl _))) ?_
        · have f1 : AV.fz rs (ints sp) (.ls rs 0 1 (e + x.length)) = isl sp := fz_isl (by omega)
          have f2 : AV.fz rs (ints sp) (.ls R 0 3 t) = .ls R 0 3 t := by simp only [AV.fz, v0, cond_false]
          have f3 : AV.fz rs (ints sp) (.lp 1 0) = .lp 1 0 := by simp only [AV.fz, v2, cond_false]
          have f4 : ∀ l q, AV.fz rs (ints sp) (.pt l q) = .pt l q := fun _ _ => rfl
          simp only [fzF, f1, f2, f3, f4, fz_other]
          (repeat' first | exact trivial | refine ⟨?_, ?_⟩ | rfl | (refine congrArg (fun z => some (AV.v (Value.int .i64 z))) ?_; omega))
        · have f1 : AV.fz rs (ints sp) (.ls rb 0 1 x.length) = .ls rb 0 1 x.length := by simp only [AV.fz, v4, cond_false]
          simp only [hfz', hls, hset', z0, z1, z2, z3, y4, y5, v0, v1', v2, v3, v4, v5, beq_self_eq_true, Option.map_some, List.map_set, f1, fz_plainL _ _ hsp]
        · simp only [hfz', hls, hset', z0, z1, z2, z3, y4, y5, v0, v1', v2, v3, v4, v5, beq_self_eq_true, Option.map_some, fz_plainL _ _ htp]
        · simp only [hfz', hls, hset', z0, z1, z2, z3, y4, y5, v0, v1', v2, v3, v4, v5, beq_self_eq_true, Option.map_some, fz_plainL _ _ (bools_plain _)]
        refine vc_ent ((ent_freezeH rb (c := bools sd) (by simp only [hls, hset', z0, z1, z2, z3, y4, y5, v0, v1', v2, v3, v4, v5, beq_self_eq_true]) (bools_plain _)).trans (ent_rows (fr := [(1, .pt C 0), (3, iv x.length), (6, .ls R 0 3 t), (7, .lp 1 0), (8, iv t), (10, .pt [iv e, iv v1, iv (v1 - o1)] 0), (13, isl sp), (14, iv D.length)]) [(1, (sndC sds).set t (bsl sd)), (R, tcs ts)] ?_ rfl ⟨⟨?_, by (first | omega | (dsimp only; omega))⟩, ⟨?_, by (first | omega | (dsimp only; omega))⟩, True.intro⟩ (Nat.le_refl _))) ?_
        · have f2 : AV.fz rb (bools sd) (.ls R 0 3 t) = .ls R 0 3 t := by simp only [AV.fz, z0, cond_false]
          have f3 : AV.fz rb (bools sd) (.lp 1 0) = .lp 1 0 := by simp only [AV.fz, z2, cond_false]
          have f4 : ∀ l q, AV.fz rb (bools sd) (.pt l q) = .pt l q := fun _ _ => rfl
          simp only [fzF, f2, f3, f4, fz_other, isl, fz_sl]
          (repeat' first | exact trivial | refine ⟨?_, ?_⟩ | rfl | (refine congrArg (fun z => some (AV.v (Value.int .i64 z))) ?_; omega))
        · have f1 : AV.fz rb (bools sd) (.ls rb 0 1 x.length) = bsl sd := by
            simp only [AV.fz, beq_self_eq_true, cond_true]
            rw [if_pos (by rw [bools_len]; omega), List.drop_zero, List.take_of_length_le (by rw [bools_len]; omega), ← hsdl]
          simp only [hfz', hls, hset', z0, z1, z2, z3, y4, y5, v0, v1', v2, v3, v4, v5, beq_self_eq_true, Option.map_some, List.map_set, f1, fz_plainL _ _ hsp]
        · simp only [hfz', hls, hset', z0, z1, z2, z3, y4, y5, v0, v1', v2, v3, v4, v5, beq_self_eq_true, Option.map_some, fz_plainL _ _ htp]
        have ksp := c_SignalErr sp (by unfold Len; omega)
        cases hSE : signalErr sp != 0
        rotate_left
        · repeat' first
           | refine v_seq ?_ | refine v_block ?_ | refine v_ret ?_ | refine v_skip ?_ | (refine v_exit ?_; repeat' first | refine xB_eq ?_ | refine xB_ne rfl ?_)
           | ((first | refine rgA fun K hK => ?_ | refine rgB rfl fun K hK => ?_ | refine rgC rfl fun K hK => ?_); simp only [go_sem,simprocAttr,hd4,hSE,l2,l2',n0,hls,hset_at,hset_hset,z0,z1,z2,z3,y4,y5,v0,v1',v2,v3,v4,v5])
           | (simp (disch := first | omega | rfl | (simp only [lnn]; omega)) only [spl])
           | (refine hK _ ?_; clear hK K)
           | (refine gdB_intro (fun h => ?_) (fun h => ?_) <;> simp only [go_sem,simprocAttr,h,hd4,hSE,l2,l2',n0,hls,hset_at,hset_hset,z0,z1,z2,z3,y4,y5,v0,v1',v2,v3,v4,v5] <;> (have h' := h; try simp only [bl] at h'))
           | (refine v_cond rfl (fun h => ?_) (fun h => ?_) <;> first | (exact Bool.noConfusion h) | (have h' := h; try simp only [bl] at h'))
           | (refine r_ret ?_; simp only [resL, resA, Tryz.f11, lk_cons', lk_nil', Nat.reduceBEq]; first | exact ⟨rfl, Sb.nil _, rfl⟩ | refine ⟨rfl, sbt ?_, rfl⟩ | refine ⟨rfl, Sb.of_eq ?_, rfl⟩)
           | (refine And.intro (by first | exact True.intro | omega | rfl | exact Nat.le_of_ble_eq_true rfl | (simp only [lnn]; omega) | exact List.forall_mem_nil _ | (refine List.forall_mem_cons.2 ⟨⟨_, rfl⟩, ?_⟩; repeat' first | exact List.forall_mem_nil _ | refine List.forall_mem_cons.2 ⟨⟨_, rfl⟩, ?_⟩)) ?_)
           | ((first | refine call_pure' (ksp) rfl ?_); simp only [go_sem,simprocAttr,hd4,hSE,l2,l2',n0,hls,hset_at,hset_hset,z0,z1,z2,z3,y4,y5,v0,v1',v2,v3,v4,v5])
           | (simp only [go_sem,simprocAttr,l2,l2',hls,hset_at,hset_hset,z0,z1,z2,z3,y4,y5,v0,v1',v2,v3,v4,v5])
           | fail
          all_goals rfl
        have hSE0 : signalErr sp = 0 := by simpa using hSE
        rw [hSE0] at ksp
        have htl : (tcs ts).length = t * 3 := by rw [tcs_len, hLp.tl]
        have ht1 : oneL (tcs ts) = true := tcs_one ts
        have nmf : (splice (splice (splice (zrep [AV.v (.string ⟨#[]⟩)] 3) 0 [AV.v (.string ⟨#[99]⟩)]) 1 [AV.v (.string ⟨#[97]⟩)]) 2 [AV.v (.string ⟨#[98]⟩)])[((t : Nat) : Int).toNat * 1]? = some (.v (.string (nm3 t))) := by
          have h3 : t = 0 ∨ t = 1 ∨ t = 2 := by omega
          rcases h3 with rfl | rfl | rfl <;> rfl
        have nmf' : (splice (splice (splice (zrep [AV.v (.string ⟨#[]⟩)] 3) 0 [AV.v (.string ⟨#[99]⟩)]) 1 [AV.v (.string ⟨#[97]⟩)]) 2 [AV.v (.string ⟨#[98]⟩)])[((t : Nat) : Int).toNat]? = some (.v (.string (nm3 t))) := by
          have h3 : t = 0 ∨ t = 1 ∨ t = 2 := by omega
          rcases h3 with rfl | rfl | rfl <;> rfl
        have htk : List.take (t * 3) (tcs ts) = tcs ts := List.take_of_length_le (by omega)
        repeat' first
         | refine v_seq ?_ | refine v_block ?_ | refine v_ret ?_ | refine v_skip ?_ | (refine v_exit ?_; repeat' first | refine xB_eq ?_ | refine xB_ne rfl ?_)
         | ((first | refine rgA fun K hK => ?_ | refine rgB rfl fun K hK => ?_ | refine rgC rfl fun K hK => ?_); simp only [go_sem,simprocAttr,hd4,bne_self_eq_false,htl,ht1,nmf,nmf',htk,l2,l2',n0,hls,hset_at,hset_hset,z0,z1,z2,z3,y4,y5,v0,v1',v2,v3,v4,v5])
         | (simp (disch := first | omega | rfl | (simp only [lnn]; omega)) only [spl])
         | (refine hK _ ?_; clear hK K)
         | (refine gdB_intro (fun h => ?_) (fun h => ?_) <;> simp only [go_sem,simprocAttr,h,hd4,bne_self_eq_false,htl,ht1,nmf,nmf',htk,l2,l2',n0,hls,hset_at,hset_hset,z0,z1,z2,z3,y4,y5,v0,v1',v2,v3,v4,v5] <;> (have h' := h; try simp only [bl] at h'))
         | (refine v_cond rfl (fun h => ?_) (fun h => ?_) <;> first | (exact Bool.noConfusion h) | (have h' := h; try simp only [bl] at h'))
         | (refine r_ret ?_; simp only [resL, resA, Tryz.f11, lk_cons', lk_nil', Nat.reduceBEq]; first | exact ⟨rfl, Sb.nil _, rfl⟩ | refine ⟨rfl, sbt ?_, rfl⟩ | refine ⟨rfl, Sb.of_eq ?_, rfl⟩)
         | (refine And.intro (by first | exact True.intro | omega | rfl | exact Nat.le_of_ble_eq_true rfl | (simp only [lnn]; omega) | exact List.forall_mem_nil _ | (refine List.forall_mem_cons.2 ⟨⟨_, rfl⟩, ?_⟩; repeat' first | exact List.forall_mem_nil _ | refine List.forall_mem_cons.2 ⟨⟨_, rfl⟩, ?_⟩)) ?_)
         | ((first | refine call_pure' (ksp) rfl ?_); simp only [go_sem,simprocAttr,hd4,bne_self_eq_false,htl,ht1,nmf,nmf',htk,l2,l2',n0,hls,hset_at,hset_hset,z0,z1,z2,z3,y4,y5,v0,v1',v2,v3,v4,v5])
         | (simp only [go_sem,simprocAttr,l2,l2',htl,ht1,nmf,nmf',htk,hls,hset_at,hset_hset,z0,z1,z2,z3,y4,y5,v0,v1',v2,v3,v4,v5])
         | fail
        refine ⟨⟨t + 1, ts ++ [⟨nm3 t, e, sp⟩], sds ++ [sd], Y2, Y2 + 1⟩, ?_, ⟨lp_step hLp hE (by omega) hD10' hown hSE0, by (first | omega | (dsimp only; omega)), by (first | omega | (dsimp only; omega)), by (first | omega | (dsimp only; omega)), by (first | omega | (dsimp only; omega))⟩, by (first | omega | (dsimp only; omega))⟩
        dsimp only
        rw [sndC_snoc (by rw [hLp.sl]; omega), hLp.sl]
        refine ent_rows [(1, (sndC sds).set t (bsl sd)), (Y2, tcs (ts ++ [(⟨nm3 t, (e : Int), sp⟩ : Tf)]))] (by (repeat' first | exact trivial | refine ⟨?_, ?_⟩ | rfl | (refine congrArg (fun z => some (AV.v (Value.int .i64 z))) ?_; omega))) rfl ⟨⟨(by simp only [hls, hset', z0, z1, z2, z3, y4, y5, v0, v1', v2, v3, v4, v5, u0, u1, u2, u3, u4, u5, u6, u7, beq_self_eq_true]), by (first | omega | (dsimp only; omega))⟩, ⟨?_, by (first | omega | (dsimp only; omega))⟩, True.intro⟩ (by (first | omega | (dsimp only; omega)))
        rw [tcs_snoc]
        simp only [hls, hset', z0, z1, z2, z3, y4, y5, v0, v1', v2, v3, v4, v5, u0, u1, u2, u3, u4, u5, u6, u7, beq_self_eq_true]
        refine congrArg some ?_
        rfl
  obtain rfl : t = 3 := by omega
  have hd2 : decide (((3 : Nat) : Int) < 3) = false := rfl
  have y4 : (R == 1) = false := beq_ne (by omega)
  have y5 : (1 == R) = false := beq_ne (by omega)
  have htl := hLp.tl
  have hsl := hLp.sl
  have hsp := sndC_plain sds
  have htp := tcs_plain ts
  have hTl := tcs_len ts
  refine vc_ent ((ent_freezeH R (c := tcs ts) (by simp only [hls, hset', y4, y5, beq_self_eq_true]) htp).trans (ent_rows (fr := [(1, .pt (jcC x e0 e1 e2 D0 D1 D2) 0), (3, iv x.length), (6, tsl ts), (7, .lp 1 0), (8, iv (3 : Nat))]) [(1, sndC sds)] ?_ rfl ⟨⟨?_, by (first | omega | (dsimp only; omega))⟩, True.intro⟩ (Nat.le_refl _))) ?_
  · have f1 : AV.fz R (tcs ts) (.ls R 0 3 3) = tsl ts := by
      simp only [AV.fz, beq_self_eq_true, cond_true]
      rw [if_pos (by rw [hTl, htl]; exact Nat.le_refl _), List.drop_zero, List.take_of_length_le (by rw [hTl, htl]; exact Nat.le_refl _)]
      show AV.sl 3 3 (tcs ts) = .sl 3 ts.length (tcs ts)
      rw [htl]
    have f3 : AV.fz R (tcs ts) (.lp 1 0) = .lp 1 0 := by simp only [AV.fz, y4, cond_false]
    have f4 : ∀ l q, AV.fz R (tcs ts) (.pt l q) = .pt l q := fun _ _ => rfl
    simp only [fzF, f1, f3, f4, fz_other]
    (repeat' first | exact trivial | refine ⟨?_, ?_⟩ | rfl | (refine congrArg (fun z => some (AV.v (Value.int .i64 z))) ?_; omega))
  · simp only [hfz', hls, hset', y4, y5, beq_self_eq_true, Option.map_some, fz_plainL _ _ hsp]
  obtain ⟨S, hS⟩ : ∃ S, S = sndC sds := ⟨_, rfl⟩
  obtain ⟨g, hg⟩ : ∃ g : Nat → Nat → Bool, g = fun t p => gb (sds.getD t []) p := ⟨_, rfl⟩
  have hSl : S.length = 3 := by rw [hS]; simp [sndC, hsl]
  have hSat : ∀ t : Nat, t < 3 → S[t]? = some (bsl (sds.getD t [])) := fun t ht => by
    rw [hS]
    unfold sndC
    rw [List.getElem?_append_left (by simp [hsl]; omega), List.getElem?_map, List.getD_eq_getElem?_getD, List.getElem?_eq_getElem (by omega)]; rfl
  have hsdl : ∀ t : Nat, t < 3 → (sds.getD t []).length = x.length := fun t ht => by
    obtain ⟨_, _, _, _, _, _, _, ho, _⟩ := hLp.each t ht
    exact ho.sdl
  rw [← hS] at hsp
  rw [← hS]
  refine vc_ent ((ent_freezeH 1 (c := S) (by simp only [hls, hset', beq_self_eq_true]) hsp).trans (ent_rows (fr := [(1, .pt (jcC x e0 e1 e2 D0 D1 D2) 0), (3, iv x.length), (6, tsl ts), (7, .pt S 0), (8, iv (3 : Nat))]) [] ?_ rfl True.intro (Nat.le_refl _))) ?_
  · have f3 : AV.fz 1 S (.lp 1 0) = .pt S 0 := by simp only [AV.fz, beq_self_eq_true, cond_true]
    have f4 : ∀ l q, AV.fz 1 S (.pt l q) = .pt l q := fun _ _ => rfl
    simp only [fzF, f3, f4, fz_other, fz_sl]
    (repeat' first | exact trivial | refine ⟨?_, ?_⟩ | rfl | (refine congrArg (fun z => some (AV.v (Value.int .i64 z))) ?_; omega))
  repeat' first
   | refine v_seq ?_ | refine v_block ?_ | refine v_ret ?_ | refine v_skip ?_ | (refine v_exit ?_; repeat' first | refine xB_eq ?_ | refine xB_ne rfl ?_)
   | ((first | refine rgA fun K hK => ?_ | refine rgB rfl fun K hK => ?_ | refine rgC rfl fun K hK => ?_); simp only [go_sem,simprocAttr,hd2,n0])
   | (simp (disch := first | omega | rfl | (simp only [lnn]; omega)) only [spl])
   | (refine hK _ ?_; clear hK K)
   | (refine gdB_intro (fun h => ?_) (fun h => ?_) <;> simp only [go_sem,simprocAttr,h,hd2,n0] <;> (have h' := h; try simp only [bl] at h'))
   | (refine v_cond rfl (fun h => ?_) (fun h => ?_) <;> first | (exact Bool.noConfusion h) | (have h' := h; try simp only [bl] at h'))
   | (refine r_ret ?_; simp only [resL, resA, Tryz.f11, lk_cons', lk_nil', Nat.reduceBEq]; first | exact ⟨rfl, Sb.nil _, rfl⟩ | refine ⟨rfl, sbt ?_, rfl⟩ | refine ⟨rfl, Sb.of_eq ?_, rfl⟩)
   | (refine And.intro (by first | exact True.intro | omega | rfl | exact Nat.le_of_ble_eq_true rfl | (simp only [lnn]; omega) | exact List.forall_mem_nil _ | (refine List.forall_mem_cons.2 ⟨⟨_, rfl⟩, ?_⟩; repeat' first | exact List.forall_mem_nil _ | refine List.forall_mem_cons.2 ⟨⟨_, rfl⟩, ?_⟩)) ?_)
   | fail
  refine v_loop (T := Nat × Nat) (fun s => ⟨[(1, .pt (jcC x e0 e1 e2 D0 D1 D2) 0), (3, iv x.length), (6, tsl ts), (7, .pt S 0), (16, .v (.bool (whT g s.1))), (17, iv s.1)], hls [], s.2, (480, 0, 0)⟩) (fun s => s.1 ≤ x.length ∧ ∀ p, p < s.1 → 2 ≤ cT g p 3) (fun s => x.length - s.1) (0, Y) ⟨by (first | omega | (dsimp only; omega)), fun p hp => absurd hp (by (first | omega | (dsimp only; omega)))⟩ ?_ ?_
  · exact ent_rows [] (by (repeat' first | exact trivial | refine ⟨?_, ?_⟩ | rfl | (refine congrArg (fun z => some (AV.v (Value.int .i64 z))) ?_; omega))) rfl True.intro (Nat.le_refl _)
  rintro ⟨i, Y3⟩ ⟨hi, hC2⟩
  dsimp only at hi hC2 ⊢
  by_cases hi2 : i < x.length
  · have hd5 : decide ((i : Int) < x.length) = true := decide_eq_true (by omega)
    repeat' first
     | refine v_seq ?_ | refine v_block ?_ | refine v_ret ?_ | refine v_skip ?_ | (refine v_exit ?_; repeat' first | refine xB_eq ?_ | refine xB_ne rfl ?_)
     | ((first | refine rgA fun K hK => ?_ | refine rgB rfl fun K hK => ?_ | refine rgC rfl fun K hK => ?_); simp only [go_sem,simprocAttr,hd5,n0])
     | (simp (disch := first | omega | rfl | (simp only [lnn]; omega)) only [spl])
     | (refine hK _ ?_; clear hK K)
     | (refine gdB_intro (fun h => ?_) (fun h => ?_) <;> simp only [go_sem,simprocAttr,h,hd5,n0] <;> (have h' := h; try simp only [bl] at h'))
     | (refine v_cond rfl (fun h => ?_) (fun h => ?_) <;> first | (exact Bool.noConfusion h) | (have h' := h; try simp only [bl] at h'))
     | (refine r_ret ?_; simp only [resL, resA, Tryz.f11, lk_cons', lk_nil', Nat.reduceBEq]; first | exact ⟨rfl, Sb.nil _, rfl⟩ | refine ⟨rfl, sbt ?_, rfl⟩ | refine ⟨rfl, Sb.of_eq ?_, rfl⟩)
     | (refine And.intro (by first | exact True.intro | omega | rfl | exact Nat.le_of_ble_eq_true rfl | (simp only [lnn]; omega) | exact List.forall_mem_nil _ | (refine List.forall_mem_cons.2 ⟨⟨_, rfl⟩, ?_⟩; repeat' first | exact List.forall_mem_nil _ | refine List.forall_mem_cons.2 ⟨⟨_, rfl⟩, ?_⟩)) ?_)
     | fail
    have bat : ∀ (t p : Nat), t < 3 → p < x.length → (bools (sds.getD t []))[p]? = some (.v (.bool (g t p))) := fun t p ht hp => by
      rw [hg]; exact bools_at (by rw [hsdl t ht]; exact hp)
    have bll : ∀ t : Nat, t < 3 → (bools (sds.getD t [])).length = x.length := fun t ht => by rw [bools_len, hsdl t ht]
    refine v_loop (T := Nat × Nat) (fun s => ⟨[(1, .pt (jcC x e0 e1 e2 D0 D1 D2) 0), (3, iv x.length), (6, tsl ts), (7, .pt S 0), (16, .v (.bool (whT g i))), (17, iv i), (18, iv (cT g i s.1)), (19, iv s.1)], hls [], s.2, (480, 0, 0)⟩) (fun s => s.1 ≤ 3) (fun s => 3 - s.1) (0, Y3) (by (first | omega | (dsimp only; omega))) ?_ ?_
    · exact ent_rows [] (by (repeat' first | exact trivial | refine ⟨?_, ?_⟩ | rfl | (refine congrArg (fun z => some (AV.v (Value.int .i64 z))) ?_; omega))) rfl True.intro (Nat.le_refl _)
    rintro ⟨t, Y4⟩ ht3'
    dsimp only at ht3' ⊢
    by_cases ht : t < 3
    · have hd6 : decide ((t : Int) < 3) = true := decide_eq_true (by omega)
      have s1 : S[((t : Nat) : Int).toNat * 1]? = some (.sl 1 x.length (bools (sds.getD t []))) := by rw [Int.toNat_natCast, Nat.mul_one, hSat t ht]; unfold bsl; rw [hsdl t ht]
      have s1' : S[((t : Nat) : Int).toNat]? = some (.sl 1 x.length (bools (sds.getD t []))) := by have := s1; rwa [Nat.mul_one] at this
      have b1 : (bools (sds.getD t []))[((i : Nat) : Int).toNat * 1]? = some (.v (.bool (g t i))) := by rw [Int.toNat_natCast, Nat.mul_one]; exact bat t i ht hi2
      have b1' : (bools (sds.getD t []))[((i : Nat) : Int).toNat]? = some (.v (.bool (g t i))) := by rw [Int.toNat_natCast]; exact bat t i ht hi2
      have bl := bll t ht
      have hcs : cT g i (t + 1) = cT g i t + bif g t i then 1 else 0 := rfl
      have hcb := cT_le g i t
      generalize bools (sds.getD t []) = B at *
      cases hgt : g t i
      all_goals
        rw [hgt] at b1 b1' hcs
        repeat' first
         | refine v_seq ?_ | refine v_block ?_ | refine v_ret ?_ | refine v_skip ?_ | (refine v_exit ?_; repeat' first | refine xB_eq ?_ | refine xB_ne rfl ?_)
         | ((first | refine rgA fun K hK => ?_ | refine rgB rfl fun K hK => ?_ | refine rgC rfl fun K hK => ?_); simp only [go_sem,simprocAttr,hd6,hSl,s1,s1',b1,b1',bl,n0])
         | (simp (disch := first | omega | rfl | (simp only [lnn]; omega)) only [spl])
         | (refine hK _ ?_; clear hK K)
         | (refine gdB_intro (fun h => ?_) (fun h => ?_) <;> simp only [go_sem,simprocAttr,h,hd6,hSl,s1,s1',b1,b1',bl,n0] <;> (have h' := h; try simp only [bl] at h'))
         | (refine v_cond rfl (fun h => ?_) (fun h => ?_) <;> first | (exact Bool.noConfusion h) | (have h' := h; try simp only [bl] at h'))
         | (refine r_ret ?_; simp only [resL, resA, Tryz.f11, lk_cons', lk_nil', Nat.reduceBEq]; first | exact ⟨rfl, Sb.nil _, rfl⟩ | refine ⟨rfl, sbt ?_, rfl⟩ | refine ⟨rfl, Sb.of_eq ?_, rfl⟩)
         | (refine And.intro (by first | exact True.intro | omega | rfl | exact Nat.le_of_ble_eq_true rfl | (simp only [lnn]; omega) | exact List.forall_mem_nil _ | (refine List.forall_mem_cons.2 ⟨⟨_, rfl⟩, ?_⟩; repeat' first | exact List.forall_mem_nil _ | refine List.forall_mem_cons.2 ⟨⟨_, rfl⟩, ?_⟩)) ?_)
         | (simp only [go_sem,simprocAttr,hSl,s1,s1',b1,b1',bl])
         | fail
        refine ⟨(t + 1, Y4), ?_, by (first | omega | (dsimp only; omega)), by (first | omega | (dsimp only; omega))⟩
        dsimp only
        rw [hcs]
        exact ent_rows [] (by (repeat' first | exact trivial | refine ⟨?_, ?_⟩ | rfl | (refine congrArg (fun z => some (AV.v (Value.int .i64 z))) ?_; omega))) rfl True.intro (Nat.le_refl _)
    obtain rfl : t = 3 := by omega
    have hd6 : decide (((3 : Nat) : Int) < 3) = false := rfl
    cases hc2 : decide ((cT g i 3 : Int) < 2)
    rotate_left
    · repeat' first
       | refine v_seq ?_ | refine v_block ?_ | refine v_ret ?_ | refine v_skip ?_ | (refine v_exit ?_; repeat' first | refine xB_eq ?_ | refine xB_ne rfl ?_)
       | ((first | refine rgA fun K hK => ?_ | refine rgB rfl fun K hK => ?_ | refine rgC rfl fun K hK => ?_); simp only [go_sem,simprocAttr,hd6,hc2,n0])
       | (simp (disch := first | omega | rfl | (simp only [lnn]; omega)) only [spl])
       | (refine hK _ ?_; clear hK K)
       | (refine gdB_intro (fun h => ?_) (fun h => ?_) <;> simp only [go_sem,simprocAttr,h,hd6,hc2,n0] <;> (have h' := h; try simp only [bl] at h'))
       | (refine v_cond rfl (fun h => ?_) (fun h => ?_) <;> first | (exact Bool.noConfusion h) | (have h' := h; try simp only [bl] at h'))
       | (refine r_ret ?_; simp only [resL, resA, Tryz.f11, lk_cons', lk_nil', Nat.reduceBEq]; first | exact ⟨rfl, Sb.nil _, rfl⟩ | refine ⟨rfl, sbt ?_, rfl⟩ | refine ⟨rfl, Sb.of_eq ?_, rfl⟩)
       | (refine And.intro (by first | exact True.intro | omega | rfl | exact Nat.le_of_ble_eq_true rfl | (simp only [lnn]; omega) | exact List.forall_mem_nil _ | (refine List.forall_mem_cons.2 ⟨⟨_, rfl⟩, ?_⟩; repeat' first | exact List.forall_mem_nil _ | refine List.forall_mem_cons.2 ⟨⟨_, rfl⟩, ?_⟩)) ?_)
       | fail
      all_goals rfl
    have hc2' : 2 ≤ cT g i 3 := by have := of_decide_eq_false hc2; omega
    have hwu : whT g (i + 1) = bif ((i : Nat) : Int).tmod 4 != 0 then whT g i else whT g i && smT g i 3 := rfl
    cases hm4 : (((i : Nat) : Int).tmod 4 != 0)
    rotate_left
    · rw [hm4] at hwu
      repeat' first
       | refine v_seq ?_ | refine v_block ?_ | refine v_ret ?_ | refine v_skip ?_ | (refine v_exit ?_; repeat' first | refine xB_eq ?_ | refine xB_ne rfl ?_)
       | ((first | refine rgA fun K hK => ?_ | refine rgB rfl fun K hK => ?_ | refine rgC rfl fun K hK => ?_); simp only [go_sem,simprocAttr,hd6,hc2,hm4,n0])
       | (simp (disch := first | omega | rfl | (simp only [lnn]; omega)) only [spl])
       | (refine hK _ ?_; clear hK K)
       | (refine gdB_intro (fun h => ?_) (fun h => ?_) <;> simp only [go_sem,simprocAttr,h,hd6,hc2,hm4,n0] <;> (have h' := h; try simp only [bl] at h'))
       | (refine v_cond rfl (fun h => ?_) (fun h => ?_) <;> first | (exact Bool.noConfusion h) | (have h' := h; try simp only [bl] at h'))
       | (refine r_ret ?_; simp only [resL, resA, Tryz.f11, lk_cons', lk_nil', Nat.reduceBEq]; first | exact ⟨rfl, Sb.nil _, rfl⟩ | refine ⟨rfl, sbt ?_, rfl⟩ | refine ⟨rfl, Sb.of_eq ?_, rfl⟩)
       | (refine And.intro (by first | exact True.intro | omega | rfl | exact Nat.le_of_ble_eq_true rfl | (simp only [lnn]; omega) | exact List.forall_mem_nil _ | (refine List.forall_mem_cons.2 ⟨⟨_, rfl⟩, ?_⟩; repeat' first | exact List.forall_mem_nil _ | refine List.forall_mem_cons.2 ⟨⟨_, rfl⟩, ?_⟩)) ?_)
       | fail
      refine ⟨(i + 1, Y4), ?_, ⟨by (first | omega | (dsimp only; omega)), below_succ2 hC2 hc2'⟩, by (first | omega | (dsimp only; omega))⟩
      dsimp only
      rw [hwu]
      exact ent_rows [] (by (repeat' first | exact trivial | refine ⟨?_, ?_⟩ | rfl | (refine congrArg (fun z => some (AV.v (Value.int .i64 z))) ?_; omega))) rfl True.intro (Nat.le_refl _)
    rw [hm4] at hwu
    repeat' first
     | refine v_seq ?_ | refine v_block ?_ | refine v_ret ?_ | refine v_skip ?_ | (refine v_exit ?_; repeat' first | refine xB_eq ?_ | refine xB_ne rfl ?_)
     | ((first | refine rgA fun K hK => ?_ | refine rgB rfl fun K hK => ?_ | refine rgC rfl fun K hK => ?_); simp only [go_sem,simprocAttr,hd6,hc2,hm4,n0])
     | (simp (disch := first | omega | rfl | (simp only [lnn]; omega)) only [spl])
     | (refine hK _ ?_; clear hK K)
     | (refine gdB_intro (fun h => ?_) (fun h => ?_) <;> simp only [go_sem,simprocAttr,h,hd6,hc2,hm4,n0] <;> (have h' := h; try simp only [bl] at h'))
     | (refine v_cond rfl (fun h => ?_) (fun h => ?_) <;> first | (exact Bool.noConfusion h) | (have h' := h; try simp only [bl] at h'))
     | (refine r_ret ?_; simp only [resL, resA, Tryz.f11, lk_cons', lk_nil', Nat.reduceBEq]; first | exact ⟨rfl, Sb.nil _, rfl⟩ | refine ⟨rfl, sbt ?_, rfl⟩ | refine ⟨rfl, Sb.of_eq ?_, rfl⟩)
     | (refine And.intro (by first | exact True.intro | omega | rfl | exact Nat.le_of_ble_eq_true rfl | (simp only [lnn]; omega) | exact List.forall_mem_nil _ | (refine List.forall_mem_cons.2 ⟨⟨_, rfl⟩, ?_⟩; repeat' first | exact List.forall_mem_nil _ | refine List.forall_mem_cons.2 ⟨⟨_, rfl⟩, ?_⟩)) ?_)
     | fail
    have hi4 : i + 3 < x.length := by
      have e1 : ((i : Nat) : Int).tmod 4 = 0 := by simpa using hm4
      have e2 : ((x.length : Nat) : Int).tmod 4 = 0 := by simpa using h4
      have e3 : ((i % 4 : Nat) : Int) = 0 := by rw [Int.ofNat_tmod]; exact e1
      have e4 : ((x.length % 4 : Nat) : Int) = 0 := by rw [Int.ofNat_tmod]; exact e2
      omega
    refine v_loop (T := Nat × Nat) (fun s => ⟨[(1, .pt (jcC x e0 e1 e2 D0 D1 D2) 0), (3, iv x.length), (6, tsl ts), (7, .pt S 0), (16, .v (.bool (whT g i))), (17, iv i), (20, .v (.bool (smT g i s.1))), (21, iv s.1)], hls [], s.2, (480, 0, 0)⟩) (fun s => s.1 ≤ 3) (fun s => 3 - s.1) (0, Y4) (by (first | omega | (dsimp only; omega))) ?_ ?_
    · exact ent_rows [] (by (repeat' first | exact trivial | refine ⟨?_, ?_⟩ | rfl | (refine congrArg (fun z => some (AV.v (Value.int .i64 z))) ?_; omega))) rfl True.intro (Nat.le_refl _)
    rintro ⟨t, Y5⟩ ht3''
    dsimp only at ht3'' ⊢
    by_cases ht : t < 3
    · have hd7 : decide ((t : Int) < 3) = true := decide_eq_true (by omega)
      have s1 : S[((t : Nat) : Int).toNat * 1]? = some (.sl 1 x.length (bools (sds.getD t []))) := by rw [Int.toNat_natCast, Nat.mul_one, hSat t ht]; unfold bsl; rw [hsdl t ht]
      have s1' : S[((t : Nat) : Int).toNat]? = some (.sl 1 x.length (bools (sds.getD t []))) := by have := s1; rwa [Nat.mul_one] at this
      have b0 : (bools (sds.getD t []))[((i : Nat) : Int).toNat]? = some (.v (.bool (g t i))) := by rw [Int.toNat_natCast]; exact bat t i ht hi2
      have b1 : (bools (sds.getD t []))[(((i : Nat) : Int) + 1).toNat]? = some (.v (.bool (g t (i + 1)))) := by rw [show (((i : Nat) : Int) + 1).toNat = i + 1 by omega]; exact bat t (i + 1) ht (by omega)
      have b2 : (bools (sds.getD t []))[(((i : Nat) : Int) + 2).toNat]? = some (.v (.bool (g t (i + 2)))) := by rw [show (((i : Nat) : Int) + 2).toNat = i + 2 by omega]; exact bat t (i + 2) ht (by omega)
      have b3 : (bools (sds.getD t []))[(((i : Nat) : Int) + 3).toNat]? = some (.v (.bool (g t (i + 3)))) := by rw [show (((i : Nat) : Int) + 3).toNat = i + 3 by omega]; exact bat t (i + 3) ht (by omega)
      have b0' : (bools (sds.getD t []))[((i : Nat) : Int).toNat * 1]? = some (.v (.bool (g t i))) := by rw [Nat.mul_one]; exact b0
      have b1' : (bools (sds.getD t []))[(((i : Nat) : Int) + 1).toNat * 1]? = some (.v (.bool (g t (i + 1)))) := by rw [Nat.mul_one]; exact b1
      have b2' : (bools (sds.getD t []))[(((i : Nat) : Int) + 2).toNat * 1]? = some (.v (.bool (g t (i + 2)))) := by rw [Nat.mul_one]; exact b2
      have b3' : (bools (sds.getD t []))[(((i : Nat) : Int) + 3).toNat * 1]? = some (.v (.bool (g t (i + 3)))) := by rw [Nat.mul_one]; exact b3
      have bl := bll t ht
      have hsu : smT g i (t + 1) = (smT g i t || (g t i && g t (i + 1) && g t (i + 2) && g t (i + 3))) := rfl
      generalize bools (sds.getD t []) = B at *
      cases hsm : smT g i t <;> cases hg0 : g t i <;> cases hg1 : g t (i + 1) <;> cases hg2 : g t (i + 2) <;> cases hg3 : g t (i + 3)
      all_goals
        rw [hsm, hg0, hg1, hg2, hg3] at hsu
        rw [hg0] at b0 b0'
        rw [hg1] at b1 b1'
        rw [hg2] at b2 b2'
        rw [hg3] at b3 b3'
        repeat' first
         | refine v_seq ?_ | refine v_block ?_ | refine v_ret ?_ | refine v_skip ?_ | (refine v_exit ?_; repeat' first | refine xB_eq ?_ | refine xB_ne rfl ?_)
         | ((first | refine rgA fun K hK => ?_ | refine rgB rfl fun K hK => ?_ | refine rgC rfl fun K hK => ?_); simp only [go_sem,simprocAttr,hd7,hsm,hSl,s1,s1',b0,b0',b1,b1',b2,b2',b3,b3',bl,n0])
         | (simp (disch := first | omega | rfl | (simp only [lnn]; omega)) only [spl])
         | (refine hK _ ?_; clear hK K)
         | (refine gdB_intro (fun h => ?_) (fun h => ?_) <;> simp only [go_sem,simprocAttr,h,hd7,hsm,hSl,s1,s1',b0,b0',b1,b1',b2,b2',b3,b3',bl,n0] <;> (have h' := h; try simp only [bl] at h'))
         | (refine v_cond rfl (fun h => ?_) (fun h => ?_) <;> first | (exact Bool.noConfusion h) | (have h' := h; try simp only [bl] at h'))
         | (refine r_ret ?_; simp only [resL, resA, Tryz.f11, lk_cons', lk_nil', Nat.reduceBEq]; first | exact ⟨rfl, Sb.nil _, rfl⟩ | refine ⟨rfl, sbt ?_, rfl⟩ | refine ⟨rfl, Sb.of_eq ?_, rfl⟩)
         | (refine And.intro (by first | exact True.intro | omega | rfl | exact Nat.le_of_ble_eq_true rfl | (simp only [lnn]; omega) | exact List.forall_mem_nil _ | (refine List.forall_mem_cons.2 ⟨⟨_, rfl⟩, ?_⟩; repeat' first | exact List.forall_mem_nil _ | refine List.forall_mem_cons.2 ⟨⟨_, rfl⟩, ?_⟩)) ?_)
         | (simp only [go_sem,simprocAttr,hSl,s1,s1',b0,b0',b1,b1',b2,b2',b3,b3',bl])
         | fail
        refine ⟨(t + 1, Y5), ?_, by (first | omega | (dsimp only; omega)), by (first | omega | (dsimp only; omega))⟩
        dsimp only
        rw [hsu]
        exact ent_rows [] (by (repeat' first | exact trivial | refine ⟨?_, ?_⟩ | rfl | (refine congrArg (fun z => some (AV.v (Value.int .i64 z))) ?_; omega))) rfl True.intro (Nat.le_refl _)
    obtain rfl : t = 3 := by omega
    have hd7 : decide (((3 : Nat) : Int) < 3) = false := rfl
    cases hwi : whT g i <;> cases hs3 : smT g i 3
    all_goals
      rw [hwi, hs3] at hwu
      repeat' first
       | refine v_seq ?_ | refine v_block ?_ | refine v_ret ?_ | refine v_skip ?_ | (refine v_exit ?_; repeat' first | refine xB_eq ?_ | refine xB_ne rfl ?_)
       | ((first | refine rgA fun K hK => ?_ | refine rgB rfl fun K hK => ?_ | refine rgC rfl fun K hK => ?_); simp only [go_sem,simprocAttr,hd7,hwi,hs3,n0])
       | (simp (disch := first | omega | rfl | (simp only [lnn]; omega)) only [spl])
       | (refine hK _ ?_; clear hK K)
       | (refine gdB_intro (fun h => ?_) (fun h => ?_) <;> simp only [go_sem,simprocAttr,h,hd7,hwi,hs3,n0] <;> (have h' := h; try simp only [bl] at h'))
       | (refine v_cond rfl (fun h => ?_) (fun h => ?_) <;> first | (exact Bool.noConfusion h) | (have h' := h; try simp only [bl] at h'))
       | (refine r_ret ?_; simp only [resL, resA, Tryz.f11, lk_cons', lk_nil', Nat.reduceBEq]; first | exact ⟨rfl, Sb.nil _, rfl⟩ | refine ⟨rfl, sbt ?_, rfl⟩ | refine ⟨rfl, Sb.of_eq ?_, rfl⟩)
       | (refine And.intro (by first | exact True.intro | omega | rfl | exact Nat.le_of_ble_eq_true rfl | (simp only [lnn]; omega) | exact List.forall_mem_nil _ | (refine List.forall_mem_cons.2 ⟨⟨_, rfl⟩, ?_⟩; repeat' first | exact List.forall_mem_nil _ | refine List.forall_mem_cons.2 ⟨⟨_, rfl⟩, ?_⟩)) ?_)
       | fail
      refine ⟨(i + 1, Y5), ?_, ⟨by (first | omega | (dsimp only; omega)), below_succ2 hC2 hc2'⟩, by (first | omega | (dsimp only; omega))⟩
      dsimp only
      rw [hwu]
      exact ent_rows [] (by (repeat' first | exact trivial | refine ⟨?_, ?_⟩ | rfl | (refine congrArg (fun z => some (AV.v (Value.int .i64 z))) ?_; omega))) rfl True.intro (Nat.le_refl _)
  obtain rfl : i = x.length := by omega
  have hd5 : decide ((x.length : Int) < x.length) = false := decide_eq_false (by omega)
  have hRes : Res x ts g := hg ▸ res_of hSx0 hl24 hl1 hLp fun p hp => by have := hC2 p hp; rw [hg] at this; exact this
  have hgA : ∀ t p, g t p = gb (sds.getD t []) p := fun t p => by rw [hg]
  have hlt : Len ts.length := by unfold Len; omega
  have hlx : ∀ i, i < ts.length → Len (gt7 ts i).nm.size ∧ Len (gt7 ts i).xs.length := fun i hi => by
    have h1 := hRes.tf.len i hi
    have h2 := isName_sz (hRes.tf.name i hi)
    unfold Len; omega
  have hmE : medE ts (x.length : Nat) = 0 := medE_of hRes.tf (by omega) (by rw [Int.toNat_natCast]; exact hRes.holes)
  have kct := c_CopyTransfers ts hlt fun i hi => (hlx i hi).2
  have kmt := c_Median ts (x.length : Nat) hlt hlx
  rw [hmE, show medL ts (x.length : Nat) = x by unfold medL; rw [hmE, Int.toNat_natCast, hRes.meds]; rfl] at kmt
  have kdt := c_DamagedG ts (x.length : Nat) 0 hlt hlx (by unfold dmE; rw [hmE]; rfl)
  rw [Int.toNat_natCast] at kdt
  have hA30 := hRes.cnt fun t ht => by
    obtain ⟨_, k, _, _, hk, _, _, ho, _⟩ := hLp.each t ht
    rw [hg]
    exact Nat.le_trans (Nat.le_of_eq ho.cnt) hk
  have hinD := fun t i (ht : t < 3) (hi : i < x.length) => hRes.inD ht hi
  obtain ⟨A, hA⟩ : ∃ A, A = dmgs ts 0 x.length := ⟨_, rfl⟩
  rw [← hA] at kdt hA30 hinD
  have d30 : decide ((30 : Int) < A.length) = false := decide_eq_false (by omega)
  have hAd := dcs_len A
  have kx := c_Ints x x lx
  rw [decide_eq_true rfl] at kx
  have c0 : (jcC x e0 e1 e2 D0 D1 D2)[0]? = some (isl x) := rfl
  obtain ⟨wh, hwh⟩ : ∃ wh, wh = whT g x.length := ⟨_, rfl⟩
  rw [← hwh]
  generalize hC : jcC x e0 e1 e2 D0 D1 D2 = C at *
  have htsl : tsl ts = .sl 3 3 (tcs ts) := by show AV.sl 3 ts.length (tcs ts) = _; rw [htl]
  rw [htsl] at kct kmt kdt ⊢
  repeat' first
   | refine v_seq ?_ | refine v_block ?_ | refine v_ret ?_ | refine v_skip ?_ | (refine v_exit ?_; repeat' first | refine xB_eq ?_ | refine xB_ne rfl ?_)
   | ((first | refine rgA fun K hK => ?_ | refine rgB rfl fun K hK => ?_ | refine rgC rfl fun K hK => ?_); simp only [go_sem,simprocAttr,hd5,c0,d30,n0,bne_self_eq_false])
   | (simp (disch := first | omega | rfl | (simp only [lnn]; omega)) only [spl])
   | (refine hK _ ?_; clear hK K)
   | (refine gdB_intro (fun h => ?_) (fun h => ?_) <;> simp only [go_sem,simprocAttr,h,hd5,c0,d30,n0,bne_self_eq_false] <;> (have h' := h; try simp only [bl] at h'))
   | (refine v_cond rfl (fun h => ?_) (fun h => ?_) <;> first | (exact Bool.noConfusion h) | (have h' := h; try simp only [bl] at h'))
   | (refine r_ret ?_; simp only [resL, resA, Tryz.f11, lk_cons', lk_nil', Nat.reduceBEq]; first | exact ⟨rfl, Sb.nil _, rfl⟩ | refine ⟨rfl, sbt ?_, rfl⟩ | refine ⟨rfl, Sb.of_eq ?_, rfl⟩)
   | (refine And.intro (by first | exact True.intro | omega | rfl | exact Nat.le_of_ble_eq_true rfl | (simp only [lnn]; omega) | exact List.forall_mem_nil _ | (refine List.forall_mem_cons.2 ⟨⟨_, rfl⟩, ?_⟩; repeat' first | exact List.forall_mem_nil _ | refine List.forall_mem_cons.2 ⟨⟨_, rfl⟩, ?_⟩)) ?_)
   | ((first | refine call_pure' (kct) rfl ?_ | refine call_pure' (kmt) rfl ?_ | refine call_pure' (kdt) rfl ?_ | refine call_pure' (kx) rfl ?_); simp only [go_sem,simprocAttr,hd5,c0,d30,n0,bne_self_eq_false])
   | (simp only [go_sem,simprocAttr,c0,d30])
   | fail
  refine v_loop (T := Nat × Nat) (fun s => ⟨[(1, .pt C 0), (3, iv x.length), (6, .sl 3 3 (tcs ts)), (7, .pt S 0), (16, .v (.bool wh)), (24, .sl 3 A.length (dcs A)), (26, iv s.1)], hls [], s.2, (480, 0, 0)⟩) (fun s => s.1 ≤ 3) (fun s => 3 - s.1) (0, Y3) (by (first | omega | (dsimp only; omega))) ?_ ?_
  · exact ent_rows [] (by (repeat' first | exact trivial | refine ⟨?_, ?_⟩ | rfl | (refine congrArg (fun z => some (AV.v (Value.int .i64 z))) ?_; omega))) rfl True.intro (Nat.le_refl _)
  rintro ⟨t, Y4⟩ ht3'
  dsimp only at ht3' ⊢
  by_cases ht : t < 3
  · have hd6 : decide ((t : Int) < 3) = true := decide_eq_true (by omega)
    --CUT1
    repeat' first
     | refine v_seq ?_ | refine v_block ?_ | refine v_ret ?_ | refine v_skip ?_ | (refine v_exit ?_; repeat' first | refine xB_eq ?_ | refine xB_ne rfl ?_)
     | ((first | refine rgA fun K hK => ?_ | refine rgB rfl fun K hK => ?_ | refine rgC rfl fun K hK => ?_); simp only [go_sem,simprocAttr,hd6,n0])
     | (simp (disch := first | omega | rfl | (simp only [lnn]; omega)) only [spl])
     | (refine hK _ ?_; clear hK K)
     | (refine gdB_intro (fun h => ?_) (fun h => ?_) <;> simp only [go_sem,simprocAttr,h,hd6,n0] <;> (have h' := h; try simp only [bl] at h'))
     | (refine v_cond rfl (fun h => ?_) (fun h => ?_) <;> first | (exact Bool.noConfusion h) | (have h' := h; try simp only [bl] at h'))
     | (refine r_ret ?_; simp only [resL, resA, Tryz.f11, lk_cons', lk_nil', Nat.reduceBEq]; first | exact ⟨rfl, Sb.nil _, rfl⟩ | refine ⟨rfl, sbt ?_, rfl⟩ | refine ⟨rfl, Sb.of_eq ?_, rfl⟩)
     | (refine And.intro (by first | exact True.intro | omega | rfl | exact Nat.le_of_ble_eq_true rfl | (simp only [lnn]; omega) | exact List.forall_mem_nil _ | (refine List.forall_mem_cons.2 ⟨⟨_, rfl⟩, ?_⟩; repeat' first | exact List.forall_mem_nil _ | refine List.forall_mem_cons.2 ⟨⟨_, rfl⟩, ?_⟩)) ?_)
     | fail
    refine v_loop (T := Nat × Nat) (fun s => ⟨[(1, .pt C 0), (3, iv x.length), (6, .sl 3 3 (tcs ts)), (7, .pt S 0), (16, .v (.bool wh)), (24, .sl 3 A.length (dcs A)), (26, iv t), (27, iv s.1)], hls [], s.2, (480, 0, 0)⟩) (fun s => s.1 ≤ x.length) (fun s => x.length - s.1) (0, Y4) (by (first | omega | (dsimp only; omega))) ?_ ?_
    · exact ent_rows [] (by (repeat' first | exact trivial | refine ⟨?_, ?_⟩ | rfl | (refine congrArg (fun z => some (AV.v (Value.int .i64 z))) ?_; omega))) rfl True.intro (Nat.le_refl _)
    rintro ⟨i, Y5⟩ hi'
    dsimp only at hi' ⊢
    by_cases hi2 : i < x.length
    · have hd7 : decide ((i : Int) < x.length) = true := decide_eq_true (by omega)
      repeat' first
       | refine v_seq ?_ | refine v_block ?_ | refine v_ret ?_ | refine v_skip ?_ | (refine v_exit ?_; repeat' first | refine xB_eq ?_ | refine xB_ne rfl ?_)
       | ((first | refine rgA fun K hK => ?_ | refine rgB rfl fun K hK => ?_ | refine rgC rfl fun K hK => ?_); simp only [go_sem,simprocAttr,hd7,n0])
       | (simp (disch := first | omega | rfl | (simp only [lnn]; omega)) only [spl])
       | (refine hK _ ?_; clear hK K)
       | (refine gdB_intro (fun h => ?_) (fun h => ?_) <;> simp only [go_sem,simprocAttr,h,hd7,n0] <;> (have h' := h; try simp only [bl] at h'))
       | (refine v_cond rfl (fun h => ?_) (fun h => ?_) <;> first | (exact Bool.noConfusion h) | (have h' := h; try simp only [bl] at h'))
       | (refine r_ret ?_; simp only [resL, resA, Tryz.f11, lk_cons', lk_nil', Nat.reduceBEq]; first | exact ⟨rfl, Sb.nil _, rfl⟩ | refine ⟨rfl, sbt ?_, rfl⟩ | refine ⟨rfl, Sb.of_eq ?_, rfl⟩)
       | (refine And.intro (by first | exact True.intro | omega | rfl | exact Nat.le_of_ble_eq_true rfl | (simp only [lnn]; omega) | exact List.forall_mem_nil _ | (refine List.forall_mem_cons.2 ⟨⟨_, rfl⟩, ?_⟩; repeat' first | exact List.forall_mem_nil _ | refine List.forall_mem_cons.2 ⟨⟨_, rfl⟩, ?_⟩)) ?_)
       | fail
      have t0 : (tcs ts)[((t : Nat) : Int).toNat * 3]? = some (.v (.string (gt7 ts t).nm)) := by rw [Int.toNat_natCast]; exact tcs_0 (by omega)
      have t0' : (tcs ts)[((t : Nat) : Int).toNat * 3 + 0]? = some (.v (.string (gt7 ts t).nm)) := t0
      have hinD' := hinD t i ht hi2
      have hsD : ∀ k, inD A (gt7 ts t).nm (i : Nat) (k + 1) = (inD A (gt7 ts t).nm (i : Nat) k || (nmEq (gd7 A k).nm (gt7 ts t).nm && within (i : Nat) (gd7 A k).lo (gd7 A k).hi)) := fun _ => rfl
      have hTl' : (tcs ts).length = 9 := by rw [hTl, htl]
      generalize (gt7 ts t).nm = nm at *
      refine v_loop (T := Nat × Nat) (fun s => ⟨[(1, .pt C 0), (3, iv x.length), (6, .sl 3 3 (tcs ts)), (7, .pt S 0), (16, .v (.bool wh)), (24, .sl 3 A.length (dcs A)), (26, iv t), (27, iv i), (28, .v (.bool (inD A nm (i : Nat) s.1))), (29, iv s.1)], hls [], s.2, (480, 0, 0)⟩) (fun s => s.1 ≤ A.length) (fun s => A.length - s.1) (0, Y5) (by (first | omega | (dsimp only; omega))) ?_ ?_
      · exact ent_rows [] (by (repeat' first | exact trivial | refine ⟨?_, ?_⟩ | rfl | (refine congrArg (fun z => some (AV.v (Value.int .i64 z))) ?_; omega))) rfl True.intro (Nat.le_refl _)
      rintro ⟨k, Y6⟩ hk
      dsimp only at hk ⊢
      by_cases hk2 : k < A.length
      · have hd8 : decide ((k : Int) < A.length) = true := decide_eq_true (by omega)
        have d0 : (dcs A)[((k : Nat) : Int).toNat * 3]? = some (.v (.string (gd7 A k).nm)) := dcs_0 hk2
        have d0' : (dcs A)[((k : Nat) : Int).toNat * 3 + 0]? = some (.v (.string (gd7 A k).nm)) := dcs_0 hk2
        have d1 : (dcs A)[((k : Nat) : Int).toNat * 3 + 1]? = some (iv (gd7 A k).lo) := dcs_1 hk2
        have d1' : (dcs A)[((k : Nat) : Int).toNat * 3 + 1 + 0]? = some (iv (gd7 A k).lo) := dcs_1 hk2
        have d2 : (dcs A)[((k : Nat) : Int).toNat * 3 + 2]? = some (iv (gd7 A k).hi) := dcs_2 hk2
        have d2' : (dcs A)[((k : Nat) : Int).toNat * 3 + 1 + 1]? = some (iv (gd7 A k).hi) := dcs_2 hk2
        have hsu := hsD k
        have kw := c_Within (i : Nat) (gd7 A k).lo (gd7 A k).hi
        have hq : ∀ b, nmEq (gd7 A k).nm nm = b → ((gd7 A k).nm.toList == nm.toList) = b := fun b h => h
        cases hin : inD A nm (i : Nat) k <;> cases hne : nmEq (gd7 A k).nm nm <;> cases hw : within (i : Nat) (gd7 A k).lo (gd7 A k).hi
        all_goals
          have hne' := hq _ hne
          rw [hin, hne, hw] at hsu
          rw [hw] at kw
          repeat' first
           | refine v_seq ?_ | refine v_block ?_ | refine v_ret ?_ | refine v_skip ?_ | (refine v_exit ?_; repeat' first | refine xB_eq ?_ | refine xB_ne rfl ?_)
           | ((first | refine rgA fun K hK => ?_ | refine rgB rfl fun K hK => ?_ | refine rgC rfl fun K hK => ?_); simp only [go_sem,simprocAttr,hd8,hin,hne',t0,t0',d0,d0',d1,d1',d2,d2',hAd,hTl',n0])
           | (simp (disch := first | omega | rfl | (simp only [lnn]; omega)) only [spl])
           | (refine hK _ ?_; clear hK K)
           | (refine gdB_intro (fun h => ?_) (fun h => ?_) <;> simp only [go_sem,simprocAttr,h,hd8,hin,hne',t0,t0',d0,d0',d1,d1',d2,d2',hAd,hTl',n0] <;> (have h' := h; try simp only [bl] at h'))
           | (refine v_cond rfl (fun h => ?_) (fun h => ?_) <;> first | (exact Bool.noConfusion h) | (have h' := h; try simp only [bl] at h'))
           | (refine r_ret ?_; simp only [resL, resA, Tryz.f11, lk_cons', lk_nil', Nat.reduceBEq]; first | exact ⟨rfl, Sb.nil _, rfl⟩ | refine ⟨rfl, sbt ?_, rfl⟩ | refine ⟨rfl, Sb.of_eq ?_, rfl⟩)
           | (refine And.intro (by first | exact True.intro | omega | rfl | exact Nat.le_of_ble_eq_true rfl | (simp only [lnn]; omega) | exact List.forall_mem_nil _ | (refine List.forall_mem_cons.2 ⟨⟨_, rfl⟩, ?_⟩; repeat' first | exact List.forall_mem_nil _ | refine List.forall_mem_cons.2 ⟨⟨_, rfl⟩, ?_⟩)) ?_)
           | ((first | refine call_pure' (kw) rfl ?_); simp only [go_sem,simprocAttr,hd8,hin,hne',t0,t0',d0,d0',d1,d1',d2,d2',hAd,hTl',n0])
           | (simp only [go_sem,simprocAttr,hne',t0,t0',d0,d0',d1,d1',d2,d2',hAd,hTl'])
           | fail
          refine ⟨(k + 1, Y6), ?_, by (first | omega | (dsimp only; omega)), by (first | omega | (dsimp only; omega))⟩
          dsimp only
          rw [hsu]
          exact ent_rows [] (by (repeat' first | exact trivial | refine ⟨?_, ?_⟩ | rfl | (refine congrArg (fun z => some (AV.v (Value.int .i64 z))) ?_; omega))) rfl True.intro (Nat.le_refl _)
      obtain rfl : k = A.length := by omega
      have hd8 : decide ((A.length : Int) < A.length) = false := decide_eq_false (by omega)
      rw [hinD']
      have s1 : S[((t : Nat) : Int).toNat * 1]? = some (.sl 1 x.length (bools (sds.getD t []))) := by rw [Int.toNat_natCast, Nat.mul_one, hSat t ht]; unfold bsl; rw [hsdl t ht]
      have s1' : S[((t : Nat) : Int).toNat]? = some (.sl 1 x.length (bools (sds.getD t []))) := by have := s1; rwa [Nat.mul_one] at this
      have b0 : (bools (sds.getD t []))[((i : Nat) : Int).toNat]? = some (.v (.bool (g t i))) := by rw [Int.toNat_natCast, hgA]; exact bools_at (by rw [hsdl t ht]; exact hi2)
      have b0' : (bools (sds.getD t []))[((i : Nat) : Int).toNat * 1]? = some (.v (.bool (g t i))) := by rw [Nat.mul_one]; exact b0
      have bl : (bools (sds.getD t [])).length = x.length := by rw [bools_len, hsdl t ht]
      generalize bools (sds.getD t []) = B at *
      cases hgt : g t i
      all_goals
        rw [hgt] at b0 b0'
        repeat' first
         | refine v_seq ?_ | refine v_block ?_ | refine v_ret ?_ | refine v_skip ?_ | (refine v_exit ?_; repeat' first | refine xB_eq ?_ | refine xB_ne rfl ?_)
         | ((first | refine rgA fun K hK => ?_ | refine rgB rfl fun K hK => ?_ | refine rgC rfl fun K hK => ?_); simp only [go_sem,simprocAttr,hd8,hSl,s1,s1',b0,b0',bl,n0])
         | (simp (disch := first | omega | rfl | (simp only [lnn]; omega)) only [spl])
         | (refine hK _ ?_; clear hK K)
         | (refine gdB_intro (fun h => ?_) (fun h => ?_) <;> simp only [go_sem,simprocAttr,h,hd8,hSl,s1,s1',b0,b0',bl,n0] <;> (have h' := h; try simp only [bl] at h'))
         | (refine v_cond rfl (fun h => ?_) (fun h => ?_) <;> first | (exact Bool.noConfusion h) | (have h' := h; try simp only [bl] at h'))
         | (refine r_ret ?_; simp only [resL, resA, Tryz.f11, lk_cons', lk_nil', Nat.reduceBEq]; first | exact ⟨rfl, Sb.nil _, rfl⟩ | refine ⟨rfl, sbt ?_, rfl⟩ | refine ⟨rfl, Sb.of_eq ?_, rfl⟩)
         | (refine And.intro (by first | exact True.intro | omega | rfl | exact Nat.le_of_ble_eq_true rfl | (simp only [lnn]; omega) | exact List.forall_mem_nil _ | (refine List.forall_mem_cons.2 ⟨⟨_, rfl⟩, ?_⟩; repeat' first | exact List.forall_mem_nil _ | refine List.forall_mem_cons.2 ⟨⟨_, rfl⟩, ?_⟩)) ?_)
         | (simp only [go_sem,simprocAttr,hSl,s1,s1',b0,b0',bl])
         | fail
        refine ⟨(i + 1, Y6), ?_, by (first | omega | (dsimp only; omega)), by (first | omega | (dsimp only; omega))⟩
        exact ent_rows [] (by (repeat' first | exact trivial | refine ⟨?_, ?_⟩ | rfl | (refine congrArg (fun z => some (AV.v (Value.int .i64 z))) ?_; omega))) rfl True.intro (Nat.le_refl _)
    obtain rfl : i = x.length := by omega
    repeat' first
     | refine v_seq ?_ | refine v_block ?_ | refine v_ret ?_ | refine v_skip ?_ | (refine v_exit ?_; repeat' first | refine xB_eq ?_ | refine xB_ne rfl ?_)
     | ((first | refine rgA fun K hK => ?_ | refine rgB rfl fun K hK => ?_ | refine rgC rfl fun K hK => ?_); simp only [go_sem,simprocAttr,hd5,n0])
     | (simp (disch := first | omega | rfl | (simp only [lnn]; omega)) only [spl])
     | (refine hK _ ?_; clear hK K)
     | (refine gdB_intro (fun h => ?_) (fun h => ?_) <;> simp only [go_sem,simprocAttr,h,hd5,n0] <;> (have h' := h; try simp only [bl] at h'))
     | (refine v_cond rfl (fun h => ?_) (fun h => ?_) <;> first | (exact Bool.noConfusion h) | (have h' := h; try simp only [bl] at h'))
     | (refine r_ret ?_; simp only [resL, resA, Tryz.f11, lk_cons', lk_nil', Nat.reduceBEq]; first | exact ⟨rfl, Sb.nil _, rfl⟩ | refine ⟨rfl, sbt ?_, rfl⟩ | refine ⟨rfl, Sb.of_eq ?_, rfl⟩)
     | (refine And.intro (by first | exact True.intro | omega | rfl | exact Nat.le_of_ble_eq_true rfl | (simp only [lnn]; omega) | exact List.forall_mem_nil _ | (refine List.forall_mem_cons.2 ⟨⟨_, rfl⟩, ?_⟩; repeat' first | exact List.forall_mem_nil _ | refine List.forall_mem_cons.2 ⟨⟨_, rfl⟩, ?_⟩)) ?_)
     | fail
    refine ⟨(t + 1, Y5), ?_, by (first | omega | (dsimp only; omega)), by (first | omega | (dsimp only; omega))⟩
    exact ent_rows [] (by (repeat' first | exact trivial | refine ⟨?_, ?_⟩ | rfl | (refine congrArg (fun z => some (AV.v (Value.int .i64 z))) ?_; omega))) rfl True.intro (Nat.le_refl _)
    --END1
  obtain rfl : t = 3 := by omega
  have hd6 : decide (((3 : Nat) : Int) < 3) = false := rfl
  cases hwv : wh
  · repeat' first
     | refine v_seq ?_ | refine v_block ?_ | refine v_ret ?_ | refine v_skip ?_ | (refine v_exit ?_; repeat' first | refine xB_eq ?_ | refine xB_ne rfl ?_)
     | ((first | refine rgA fun K hK => ?_ | refine rgB rfl fun K hK => ?_ | refine rgC rfl fun K hK => ?_); simp only [go_sem,simprocAttr,hd6,hwv,n0])
     | (simp (disch := first | omega | rfl | (simp only [lnn]; omega)) only [spl])
     | (refine hK _ ?_; clear hK K)
     | (refine gdB_intro (fun h => ?_) (fun h => ?_) <;> simp only [go_sem,simprocAttr,h,hd6,hwv,n0] <;> (have h' := h; try simp only [bl] at h'))
     | (refine v_cond rfl (fun h => ?_) (fun h => ?_) <;> first | (exact Bool.noConfusion h) | (have h' := h; try simp only [bl] at h'))
     | (refine r_ret ?_; simp only [resL, resA, Tryz.f11, lk_cons', lk_nil', Nat.reduceBEq]; first | exact ⟨rfl, Sb.nil _, rfl⟩ | refine ⟨rfl, sbt ?_, rfl⟩ | refine ⟨rfl, Sb.of_eq ?_, rfl⟩)
     | (refine And.intro (by first | exact True.intro | omega | rfl | exact Nat.le_of_ble_eq_true rfl | (simp only [lnn]; omega) | exact List.forall_mem_nil _ | (refine List.forall_mem_cons.2 ⟨⟨_, rfl⟩, ?_⟩; repeat' first | exact List.forall_mem_nil _ | refine List.forall_mem_cons.2 ⟨⟨_, rfl⟩, ?_⟩)) ?_)
     | fail
    all_goals rfl
  repeat' first
   | refine v_seq ?_ | refine v_block ?_ | refine v_ret ?_ | refine v_skip ?_ | (refine v_exit ?_; repeat' first | refine xB_eq ?_ | refine xB_ne rfl ?_)
   | ((first | refine rgA fun K hK => ?_ | refine rgB rfl fun K hK => ?_ | refine rgC rfl fun K hK => ?_); simp only [go_sem,simprocAttr,hd6,hwv,n0])
   | (simp (disch := first | omega | rfl | (simp only [lnn]; omega)) only [spl])
   | (refine hK _ ?_; clear hK K)
   | (refine gdB_intro (fun h => ?_) (fun h => ?_) <;> simp only [go_sem,simprocAttr,h,hd6,hwv,n0] <;> (have h' := h; try simp only [bl] at h'))
   | (refine v_cond rfl (fun h => ?_) (fun h => ?_) <;> first | (exact Bool.noConfusion h) | (have h' := h; try simp only [bl] at h'))
   | (refine r_ret ?_; simp only [resL, resA, Tryz.f11, lk_cons', lk_nil', Nat.reduceBEq]; first | exact ⟨rfl, Sb.nil _, rfl⟩ | refine ⟨rfl, sbt ?_, rfl⟩ | refine ⟨rfl, Sb.of_eq ?_, rfl⟩)
   | (refine And.intro (by first | exact True.intro | omega | rfl | exact Nat.le_of_ble_eq_true rfl | (simp only [lnn]; omega) | exact List.forall_mem_nil _ | (refine List.forall_mem_cons.2 ⟨⟨_, rfl⟩, ?_⟩; repeat' first | exact List.forall_mem_nil _ | refine List.forall_mem_cons.2 ⟨⟨_, rfl⟩, ?_⟩)) ?_)
   | fail
  obtain ⟨K, hK⟩ : ∃ K, x.length = K * 4 := by
    have e2 : ((x.length : Nat) : Int).tmod 4 = 0 := by simpa using h4
    have e4 : ((x.length % 4 : Nat) : Int) = 0 := by rw [Int.ofNat_tmod]; exact e2
    exact ⟨x.length / 4, by omega⟩
  have hK1 : 1 ≤ K := by omega
  have hK6 : K ≤ 6 := by omega
  have hwG : ∀ k, k < K → ∃ t, t < 3 ∧ ∀ q, q < 4 → g t (k * 4 + q) = true := fun k hk => smT_some 3 (whT_all _ (by rw [← hwh]; exact hwv) (k * 4) (by omega) (by omega))
  obtain ⟨ta, tb, tc, hts⟩ : ∃ ta tb tc, ts = [ta, tb, tc] := by
    match ts, htl with
    | [a, b, c], _ => exact ⟨a, b, c, rfl⟩
  have kfc := f_CopyTransfers ts hlt fun i hi => (hlx i hi).2
  rw [htl] at kfc
  have htsl3 := htsl
  unfold tsl at kfc
  rw [htl] at kfc
  have hTl9 : (tcs ts).length = 9 := by rw [hTl, htl]
  refine v_loop (T := Nat × Nat) (fun s => ⟨[(1, .pt C 0), (3, iv x.length), (6, .sl 3 3 (tcs ts)), (30, iv s.1)], hls [], s.2, (480, 0, 0)⟩) (fun s => s.1 ≤ 2) (fun s => 2 - s.1) (0, Y4) (by (first | omega | (dsimp only; omega))) ?_ ?_
  · exact ent_rows [] (by (repeat' first | exact trivial | refine ⟨?_, ?_⟩ | rfl | (refine congrArg (fun z => some (AV.v (Value.int .i64 z))) ?_; omega))) rfl True.intro (Nat.le_refl _)
  rintro ⟨n, Y5⟩ hn2
  dsimp only at hn2 ⊢
  by_cases hn : n < 2
  rotate_left
  · obtain rfl : n = 2 := by omega
    have hd9 : decide (((2 : Nat) : Int) < 2) = false := rfl
    repeat' first
     | refine v_seq ?_ | refine v_block ?_ | refine v_ret ?_ | refine v_skip ?_ | (refine v_exit ?_; repeat' first | refine xB_eq ?_ | refine xB_ne rfl ?_)
     | ((first | refine rgA fun K hK => ?_ | refine rgB rfl fun K hK => ?_ | refine rgC rfl fun K hK => ?_); simp only [go_sem,simprocAttr,hd9,n0])
     | (simp (disch := first | omega | rfl | (simp only [lnn]; omega)) only [spl])
     | (refine hK _ ?_; clear hK K)
     | (refine gdB_intro (fun h => ?_) (fun h => ?_) <;> simp only [go_sem,simprocAttr,h,hd9,n0] <;> (have h' := h; try simp only [bl] at h'))
     | (refine v_cond rfl (fun h => ?_) (fun h => ?_) <;> first | (exact Bool.noConfusion h) | (have h' := h; try simp only [bl] at h'))
     | (refine r_ret ?_; simp only [resL, resA, Tryz.f11, lk_cons', lk_nil', Nat.reduceBEq]; first | exact ⟨rfl, Sb.nil _, rfl⟩ | refine ⟨rfl, sbt ?_, rfl⟩ | refine ⟨rfl, Sb.of_eq ?_, rfl⟩)
     | (refine And.intro (by first | exact True.intro | omega | rfl | exact Nat.le_of_ble_eq_true rfl | (simp only [lnn]; omega) | exact List.forall_mem_nil _ | (refine List.forall_mem_cons.2 ⟨⟨_, rfl⟩, ?_⟩; repeat' first | exact List.forall_mem_nil _ | refine List.forall_mem_cons.2 ⟨⟨_, rfl⟩, ?_⟩)) ?_)
     | fail
    all_goals rfl
  have hd9 : decide ((n : Int) < 2) = true := decide_eq_true (by omega)
  have e4 : ∀ a b c d a' b' c' d' : AV, splice [a, b, c, d] 0 [a', b', c', d'] = [a', b', c', d'] := fun _ _ _ _ _ _ _ _ => rfl
  have q0 : (Y5 + 1 == Y5) = false := beq_ne (by omega)
  have q1 : (Y5 == Y5 + 1) = false := beq_ne (by omega)
  have hn01 : n = 0 ∨ n = 1 := by omega
  have hbest : ∃ (us : List Tf) (gU : Nat → Nat → Bool), Res x us gU ∧ (∀ k, k < K → ∃ t, t < 3 ∧ ∀ q, q < 4 → gU t (k * 4 + q) = true) ∧ us = bif (n == 1) then [tc, tb, ta] else ts := by
    rcases hn01 with rfl | rfl
    · exact ⟨ts, g, hRes, hwG, rfl⟩
    · refine ⟨[tc, tb, ta], fun t => g (2 - t), (hts ▸ hRes).rev, fun k hk => ?_, rfl⟩
      obtain ⟨t, ht, hq⟩ := hwG k hk
      exact ⟨2 - t, by omega, fun q h4 => by show g (2 - (2 - t)) _ = true; rw [show 2 - (2 - t) = t by omega]; exact hq q h4⟩
  obtain ⟨us, gU, hResU, hwU, hus⟩ := hbest
  have husl := hResU.l3
  have hUl := tcs_len us
  have hUp := tcs_plain us
  rw [husl] at hUl
  have hlu : Len us.length := by unfold Len; omega
  have hnu : ∀ i, i < us.length → Len (gt7 us i).nm.size ∧ Len (gt7 us i).xs.length := fun i hi => by
    have h1 := hResU.tf.len i hi
    have h2 := isName_sz (hResU.tf.name i hi)
    unfold Len; omega
  have husL : tsl us = .sl 3 3 (tcs us) := by show AV.sl 3 us.length (tcs us) = _; rw [husl]
  have hT := hResU.tk hK hK1 hK6
  have hgp := fun k (hk : k < K) => hResU.gap hK hk
  have hEu : tkE us (x.length : Nat) 4 0 = 0 := tkE_of hT hgp
  obtain ⟨m, hDu, hoku⟩ := c_open us (x.length : Nat) 4 0 hlu hnu
  obtain ⟨_, hm, _⟩ := hoku hEu
  have hmK : m = K := by rw [hm]; unfold tkK; rw [Int.toNat_natCast]; show x.length / 4 = K; omega
  rw [hEu, hmK] at hDu
  have kB := c_BestG us (x.length : Nat) 4 0 K 4 hT hgp hDu
  obtain ⟨hz0, _⟩ := hResU.best hK hK1 hK6 hwU
  obtain ⟨L, hL⟩ : ∃ L, L = namA (dvn us 4) 0 K us.length (fun i => (gt7 us i).nm) K := ⟨_, rfl⟩
  have hLl : L.length = K := by rw [hL]; exact namA_len _ _ _ _ _ _
  obtain ⟨hc0, hj0, hJx⟩ := hResU.joined hK hK1 hK6 hwU hL
  change Pure _ _ _ (.tu [ssl (namA (dvn us 4) 0 K us.length (fun i => (gt7 us i).nm) K), iv (total7 (dvn us 4) 0 K us.length), iv 0]) at kB
  rw [← hL, hz0] at kB
  obtain ⟨_, hall⟩ := cErr_zero hc0
  have hcix : ∀ k : Nat, k < K → gi (cIxs us L K) k = (cNat us L k : Nat) ∧ cNat us L k < us.length := fun k hk => by
    obtain ⟨a1, a2, _, _⟩ := cEr_ok (hall k hk)
    exact ⟨by rw [gi_cIxs hk, a1], a2⟩
  have kPo := c_PlanOk us (x.length : Nat) 4 0 K 4 L hT (by unfold Len; omega) hDu hc0 (fun k hk => by
    obtain ⟨a1, a2, _, _⟩ := cEr_ok (hall k hk)
    omega)
  have hck := ckP_pl hT (is := cIxs us L K) (fun k hk => by have := hcix k hk; omega)
  obtain ⟨P, hP⟩ : ∃ P, P = plTo us 4 (cIxs us L K) K := ⟨_, rfl⟩
  rw [← hP] at kPo hck hj0 hJx
  have hPl : P.length ≤ 6 := by have := plTo_len us 4 (cIxs us L K) K; rw [← hP] at this; omega
  obtain ⟨hPok, _⟩ := ckP_zero hck
  obtain ⟨kF, htz⟩ := c_FormatFew (x.length : Nat) P (by omega) (by unfold I64; omega) (fun p hp => by
    have := hPok.pc hp
    unfold I64; omega)
  obtain ⟨r1, r2, r3⟩ := again_ok hck
  have kPP := c_ParsePlan (join7 (wToI (x.length : Nat) P P.length) ⟨#[44]⟩) (by omega) _ _ (fmt_cut (x.length : Nat) P)
  rw [r1, r2, r3] at kPP
  have kPP' : Pure Tryz.prog 62 [.v (.string (join7 (wToI (x.length : Nat) P P.length) ⟨#[44]⟩))] (.tu [plA (x.length : Nat) P, iv 0]) := kPP
  clear kPP
  generalize join7 (wToI (x.length : Nat) P P.length) ⟨#[44]⟩ = str at *
  have kSP := c_SamePlan (x.length : Nat) P (by unfold Len; omega)
  have kCP := c_CopyPlan (x.length : Nat) P (by unfold Len; omega)
  have kCK := c_CopyTask us (x.length : Nat) 4 0 hlu fun i hi => (hnu i hi).2
  have kCX := c_CopyTexts L (by unfold Len; omega)
  obtain ⟨ss, hss⟩ : ∃ ss, ss = us.map Tf.xs := ⟨_, rfl⟩
  have hssl : ss.length = 3 := by rw [hss, List.length_map, husl]
  have hsg : ∀ i, i < us.length → gS ss i = (gt7 us i).xs := fun i hi => by rw [hss]; simp [gS, gt7, hi]
  rw [← hss] at hj0 hJx
  have kj := c_Joined (x.length : Nat) P ss (by unfold Len; omega) (by unfold Len; omega) (fun i hi => by rw [hsg i (by omega)]; exact (hnu i (by omega)).2)
  rw [show jnL (x.length : Nat) P ss = x by unfold jnL; rw [hj0, Int.toNat_natCast, hJx]; rfl, hj0] at kj
  have t2 : ∀ a b : AV, List.take 2 [a, b] = [a, b] := fun _ _ => rfl
  have t4 : ∀ a b c d : AV, List.take 4 [a, b, c, d] = [a, b, c, d] := fun _ _ _ _ => rfl
  have e2 : ∀ a b c d : AV, splice [a, b] 0 [c, d] = [c, d] := fun _ _ _ _ => rfl
  have hq4 : (x.length : Int).tdiv 4 = (K : Nat) := by
    rw [hK]
    rw [show (((K * 4 : Nat)) : Int) = (K : Int) * 4 by omega]
    exact Int.mul_tdiv_cancel _ (by decide)
  have hK0 : ((K : Int) != (K : Nat)) = false := by simp
  unfold tkA at kB kPo kCK
  rw [husL] at kB kPo kCK
  unfold ssl at kB kPo kCX
  rw [hLl] at kB kPo kCX
  have w0 : (Y5 + 1 == Y5) = false := beq_ne (by omega)
  rcases hn01 with hn0 | hn1
  case' inl =>
    have hnb : (((n : Nat) : Int) == 1) = false := by rw [hn0]; rfl
    have hus' : us = ts := by rw [hus, hn0]; rfl
    repeat' first
     | refine v_seq ?_ | refine v_block ?_ | refine v_ret ?_ | refine v_skip ?_ | (refine v_exit ?_; repeat' first | refine xB_eq ?_ | refine xB_ne rfl ?_)
     | ((first | refine rgAs 85 rfl fun K hK => ?_ | refine rgBs 85 rfl rfl fun K hK => ?_ | refine rgCs 85 rfl rfl fun K hK => ?_); simp only [go_sem,simprocAttr,hd9,hnb,n0,hls,hset_at,hset_hset,q0,q1,e4])
     | (simp (disch := first | omega | rfl | (simp only [lnn]; omega)) only [spl])
     | (refine hK _ ?_; clear hK K)
     | (refine gdB_intro (fun h => ?_) (fun h => ?_) <;> simp only [go_sem,simprocAttr,h,hd9,hnb,n0,hls,hset_at,hset_hset,q0,q1,e4] <;> (have h' := h; try simp only [bl] at h'))
     | (refine v_cond rfl (fun h => ?_) (fun h => ?_) <;> first | (exact Bool.noConfusion h) | (have h' := h; try simp only [bl] at h'))
     | (refine r_ret ?_; simp only [resL, resA, Tryz.f11, lk_cons', lk_nil', Nat.reduceBEq]; first | exact ⟨rfl, Sb.nil _, rfl⟩ | refine ⟨rfl, sbt ?_, rfl⟩ | refine ⟨rfl, Sb.of_eq ?_, rfl⟩)
     | (refine And.intro (by first | exact True.intro | omega | rfl | exact Nat.le_of_ble_eq_true rfl | (simp only [lnn]; omega) | exact List.forall_mem_nil _ | (refine List.forall_mem_cons.2 ⟨⟨_, rfl⟩, ?_⟩; repeat' first | exact List.forall_mem_nil _ | refine List.forall_mem_cons.2 ⟨⟨_, rfl⟩, ?_⟩)) ?_)
     | (refine call_fresh kfc (SbL.refl _) rfl ?_; simp only [cmK, go_sem,simprocAttr,hset_at,hset_hset,q0,q1,e4])
     | fail
    refine vc_ent (ent_rows (fr := [(1, .pt C 0), (3, iv x.length), (6, .sl 3 3 (tcs ts)), (30, iv n), (31, .lp (Y5 + 1) 0)]) [(Y5, tcs us), (Y5 + 1, [.ls Y5 0 3 3, iv x.length, iv 4, iv 0])] (by (repeat' first | exact trivial | refine ⟨?_, ?_⟩ | rfl | (refine congrArg (fun z => some (AV.v (Value.int .i64 z))) ?_; omega))) rfl ⟨⟨by rw [hus']; simp only [hls, hset', q0, q1, beq_self_eq_true], by (first | omega | (dsimp only; omega))⟩, ⟨by simp only [hls, hset', q0, q1, beq_self_eq_true]; exact congrArg some rfl, by (first | omega | (dsimp only; omega))⟩, True.intro⟩ (Nat.le_refl _)) ?_
  case' inr =>
    have hnb : (((n : Nat) : Int) == 1) = true := by rw [hn1]; rfl
    have hus' : us = [tc, tb, ta] := by rw [hus, hn1]; rfl
    have a1 : List.take 3 (List.drop 6 (tcs ts)) = [.v (.string (gt7 ts 2).nm), iv (gt7 ts 2).lag, isl (gt7 ts 2).xs] := tcs_at (ts := ts) (i := 2) (by omega)
    have a2 : List.take 3 (tcs ts) = [.v (.string (gt7 ts 0).nm), iv (gt7 ts 0).lag, isl (gt7 ts 0).xs] := by have := tcs_at (ts := ts) (i := 0) (by omega); simpa using this
    have a3 : splice (tcs ts) 0 [.v (.string (gt7 ts 2).nm), iv (gt7 ts 2).lag, isl (gt7 ts 2).xs] = tcs (ts.set 0 (gt7 ts 2)) := by rw [hts]; rfl
    have a4 : splice (tcs (ts.set 0 (gt7 ts 2))) 6 [.v (.string (gt7 ts 0).nm), iv (gt7 ts 0).lag, isl (gt7 ts 0).xs] = tcs [tc, tb, ta] := by rw [hts]; rfl
    have hl2 : (tcs (ts.set 0 (gt7 ts 2))).length = 9 := by rw [tcs_len, List.length_set, htl]
    repeat' first
     | refine v_seq ?_ | refine v_block ?_ | refine v_ret ?_ | refine v_skip ?_ | (refine v_exit ?_; repeat' first | refine xB_eq ?_ | refine xB_ne rfl ?_)
     | ((first | refine rgAs 85 rfl fun K hK => ?_ | refine rgBs 85 rfl rfl fun K hK => ?_ | refine rgCs 85 rfl rfl fun K hK => ?_); simp only [go_sem,simprocAttr,hd9,hnb,n0,hTl9,a1,a2,a3,a4,hl2,hls,hset_at,hset_hset,q0,q1,e4])
     | (simp (disch := first | omega | rfl | (simp only [lnn]; omega)) only [spl])
     | (refine hK _ ?_; clear hK K)
     | (refine gdB_intro (fun h => ?_) (fun h => ?_) <;> simp only [go_sem,simprocAttr,h,hd9,hnb,n0,hTl9,a1,a2,a3,a4,hl2,hls,hset_at,hset_hset,q0,q1,e4] <;> (have h' := h; try simp only [bl] at h'))
     | (refine v_cond rfl (fun h => ?_) (fun h => ?_) <;> first | (exact Bool.noConfusion h) | (have h' := h; try simp only [bl] at h'))
     | (refine r_ret ?_; simp only [resL, resA, Tryz.f11, lk_cons', lk_nil', Nat.reduceBEq]; first | exact ⟨rfl, Sb.nil _, rfl⟩ | refine ⟨rfl, sbt ?_, rfl⟩ | refine ⟨rfl, Sb.of_eq ?_, rfl⟩)
     | (refine And.intro (by first | exact True.intro | omega | rfl | exact Nat.le_of_ble_eq_true rfl | (simp only [lnn]; omega) | exact List.forall_mem_nil _ | (refine List.forall_mem_cons.2 ⟨⟨_, rfl⟩, ?_⟩; repeat' first | exact List.forall_mem_nil _ | refine List.forall_mem_cons.2 ⟨⟨_, rfl⟩, ?_⟩)) ?_)
     | (refine call_fresh kfc (SbL.refl _) rfl ?_; simp only [cmK, go_sem,simprocAttr,hset_at,hset_hset,q0,q1,e4])
     | (refine v_drawL evOk rfl 13 3 393 (.cons 3 (.cons 13 (.cons 14 (.cons 15 .nil .nil) .nil) .nil) (.cons 13 (.cons 3 (.cons 14 (.cons 15 .nil .nil) .nil) .nil) .nil)) (by kernel_rfl) (fun K hK => ?_); simp only [go_sem,simprocAttr,OT.isNil,hls,hTl9,a1,a2,a3,a4,hl2,hset_at,hset_hset,q0,q1,e4])
     | exact wpK_nil
     | (refine wpK_cons rfl ?_ ?_ <;> try simp only [go_sem,simprocAttr,OT.isNil,hls,hTl9,a1,a2,a3,a4,hl2,hset_at,hset_hset,q0,q1,e4])
     | (simp only [go_sem,simprocAttr,OT.isNil,St.forget,List.filter_cons,List.filter_nil,bne,Nat.reduceBEq,Bool.false_eq_true,if_true,if_false,hls,hTl9,a1,a2,a3,a4,hl2,hset_at,hset_hset,q0,q1,e4])
     | (refine And.intro ?_ ?_)
     | fail
    all_goals try (exfalso; omega)
    all_goals
      refine vc_ent (ent_rows (fr := [(1, .pt C 0), (3, iv x.length), (6, .sl 3 3 (tcs ts)), (30, iv n), (31, .lp (Y5 + 1) 0)]) [(Y5, tcs us), (Y5 + 1, [.ls Y5 0 3 3, iv x.length, iv 4, iv 0])] (by (repeat' first | exact trivial | refine ⟨?_, ?_⟩ | rfl | (refine congrArg (fun z => some (AV.v (Value.int .i64 z))) ?_; omega))) rfl ⟨⟨by rw [hus']; simp only [hls, hset', q0, q1, beq_self_eq_true], by (first | omega | (dsimp only; omega))⟩, ⟨by simp only [hls, hset', q0, q1, beq_self_eq_true]; exact congrArg some rfl, by (first | omega | (dsimp only; omega))⟩, True.intro⟩ (Nat.le_refl _)) ?_
  all_goals
    refine vc_ent ((ent_freezeH Y5 (c := tcs us) (by simp only [hls, hset', q0, q1, beq_self_eq_true]) hUp).trans (ent_rows (fr := [(1, .pt C 0), (3, iv x.length), (6, .sl 3 3 (tcs ts)), (30, iv n), (31, .lp (Y5 + 1) 0)]) [(Y5 + 1, [.sl 3 3 (tcs us), iv x.length, iv 4, iv 0])] ?_ rfl ⟨⟨?_, by (first | omega | (dsimp only; omega))⟩, True.intro⟩ (Nat.le_refl _))) ?_
    · have f3 : AV.fz Y5 (tcs us) (.lp (Y5 + 1) 0) = .lp (Y5 + 1) 0 := by simp only [AV.fz, q1, cond_false]
      have f4 : ∀ l q, AV.fz Y5 (tcs us) (.pt l q) = .pt l q := fun _ _ => rfl
      simp only [fzF, f3, f4, fz_other, fz_sl]
      (repeat' first | exact trivial | refine ⟨?_, ?_⟩ | rfl | (refine congrArg (fun z => some (AV.v (Value.int .i64 z))) ?_; omega))
    · have f1 : AV.fz Y5 (tcs us) (.ls Y5 0 3 3) = .sl 3 3 (tcs us) := by
        simp only [AV.fz, beq_self_eq_true, cond_true]
        rw [if_pos (by rw [hUl]; exact Nat.le_refl _), List.drop_zero, List.take_of_length_le (by rw [hUl]; exact Nat.le_refl _)]
      simp only [hfz', hls, hset', q0, q1, beq_self_eq_true, Option.map_some, List.map_cons, List.map_nil, f1, fz_other]
    refine vc_ent ((ent_freezeH (Y5 + 1) (c := [.sl 3 3 (tcs us), iv x.length, iv 4, iv 0]) (by simp only [hls, hset', q0, q1, beq_self_eq_true]) rfl).trans (ent_rows (fr := [(1, .pt C 0), (3, iv x.length), (6, .sl 3 3 (tcs ts)), (30, iv n), (31, .pt [.sl 3 3 (tcs us), iv x.length, iv 4, iv 0] 0)]) [] ?_ rfl True.intro (Nat.le_refl _))) ?_
    · have f3 : AV.fz (Y5 + 1) [.sl 3 3 (tcs us), iv x.length, iv 4, iv 0] (.lp (Y5 + 1) 0) = .pt [.sl 3 3 (tcs us), iv x.length, iv 4, iv 0] 0 := by simp only [AV.fz, beq_self_eq_true, cond_true]
      have f4 : ∀ l q, AV.fz (Y5 + 1) [.sl 3 3 (tcs us), iv x.length, iv 4, iv 0] (.pt l q) = .pt l q := fun _ _ => rfl
      simp only [fzF, f3, f4, fz_other, fz_sl]
      (repeat' first | exact trivial | refine ⟨?_, ?_⟩ | rfl | (refine congrArg (fun z => some (AV.v (Value.int .i64 z))) ?_; omega))
    obtain ⟨B, hB⟩ : ∃ B, B = Y5 + 1 + 1 := ⟨_, rfl⟩
    refine vc_ent (ent_rows (fr := [(1, .pt C 0), (3, iv x.length), (6, .sl 3 3 (tcs ts)), (30, iv n), (31, .pt [.sl 3 3 (tcs us), iv x.length, iv 4, iv 0] 0)]) (nx := B) [] (by (repeat' first | exact trivial | refine ⟨?_, ?_⟩ | rfl | (refine congrArg (fun z => some (AV.v (Value.int .i64 z))) ?_; omega))) rfl True.intro (by rw [hB]; exact Nat.le_refl _)) ?_
    have b0 : (B + 1 == B) = false := beq_ne (by omega)
    have b1 : (B == B + 1) = false := beq_ne (by omega)
    have b2 : (B + 1 + 1 == B) = false := beq_ne (by omega)
    have b3 : (B == B + 1 + 1) = false := beq_ne (by omega)
    have b4 : (B + 1 + 1 == B + 1) = false := beq_ne (by omega)
    have b5 : (B + 1 == B + 1 + 1) = false := beq_ne (by omega)
    repeat' first
     | refine v_seq ?_ | refine v_block ?_ | refine v_ret ?_ | refine v_skip ?_ | (refine v_exit ?_; repeat' first | refine xB_eq ?_ | refine xB_ne rfl ?_)
     | ((first | refine rgA fun K hK => ?_ | refine rgB rfl fun K hK => ?_ | refine rgC rfl fun K hK => ?_); simp only [go_sem,simprocAttr,t2,t4,e2,hq4,hK0,n0,bne_self_eq_false,hls,hset_at,hset_hset,b0,b1,b2,b3,b4,b5])
     | (simp (disch := first | omega | rfl | (simp only [lnn]; omega)) only [spl])
     | (refine hK _ ?_; clear hK K)
     | (refine gdB_intro (fun h => ?_) (fun h => ?_) <;> simp only [go_sem,simprocAttr,h,t2,t4,e2,hq4,hK0,n0,bne_self_eq_false,hls,hset_at,hset_hset,b0,b1,b2,b3,b4,b5] <;> (have h' := h; try simp only [bl] at h'))
     | (refine v_cond rfl (fun h => ?_) (fun h => ?_) <;> first | (exact Bool.noConfusion h) | (have h' := h; try simp only [bl] at h'))
     | (refine r_ret ?_; simp only [resL, resA, Tryz.f11, lk_cons', lk_nil', Nat.reduceBEq]; first | exact ⟨rfl, Sb.nil _, rfl⟩ | refine ⟨rfl, sbt ?_, rfl⟩ | refine ⟨rfl, Sb.of_eq ?_, rfl⟩)
     | (refine And.intro (by first | exact True.intro | omega | rfl | exact Nat.le_of_ble_eq_true rfl | (simp only [lnn]; omega) | exact List.forall_mem_nil _ | (refine List.forall_mem_cons.2 ⟨⟨_, rfl⟩, ?_⟩; repeat' first | exact List.forall_mem_nil _ | refine List.forall_mem_cons.2 ⟨⟨_, rfl⟩, ?_⟩)) ?_)
     | ((first | refine call_pure' (kCK) rfl ?_ | refine call_pure' (kB) rfl ?_ | refine call_pure' (kCX) rfl ?_ | refine call_pure' (kPo) rfl ?_ | refine call_pure' (kCP) rfl ?_ | refine call_pure' (kF) rfl ?_ | refine call_pure' (kPP') rfl ?_ | refine call_pure' (kSP) rfl ?_); simp only [go_sem,simprocAttr,t2,t4,e2,hq4,hK0,n0,bne_self_eq_false,hls,hset_at,hset_hset,b0,b1,b2,b3,b4,b5])
     | (simp only [go_sem,simprocAttr,t2,t4,e2,hq4,hK0,hls,hset_at,hset_hset,b0,b1,b2,b3,b4,b5])
     | fail
    all_goals try exact absurd True.intro h'
    have plPl : plainL [iv x.length, plS P] = true := by simp [plainL, AV.plain, iv, plS, plc_plain]
    refine v_loop (T := Nat × Nat × Nat) (fun s => ⟨[(1, .pt C 0), (3, iv x.length), (6, .sl 3 3 (tcs ts)), (30, iv n), (31, .pt [.sl 3 3 (tcs us), iv x.length, iv 4, iv 0] 0), (37, .lp (B + 1) 0), (39, .ls s.2.1 0 1 s.1), (40, iv s.1)], hls [(B + 1, [iv x.length, plS P]), (s.2.1, lsC (ss.take s.1))], s.2.2, (480, 0, 0)⟩) (fun s => s.1 ≤ 3 ∧ s.2.1 ≠ B + 1 ∧ s.2.1 < s.2.2 ∧ B + 1 < s.2.2) (fun s => 3 - s.1) (0, B + 1 + 1, B + 1 + 1 + 1) ⟨by (first | omega | (dsimp only; omega)), by (first | omega | (dsimp only; omega)), by (first | omega | (dsimp only; omega)), by (first | omega | (dsimp only; omega))⟩ ?_ ?_
    · exact ent_rows [(B + 1, [iv x.length, plS P]), (B + 1 + 1, lsC (ss.take 0))] (by (repeat' first | exact trivial | refine ⟨?_, ?_⟩ | rfl | (refine congrArg (fun z => some (AV.v (Value.int .i64 z))) ?_; omega))) rfl ⟨⟨by simp only [hls, hset', b0, b1, b2, b3, b4, b5, beq_self_eq_true], by (first | omega | (dsimp only; omega))⟩, ⟨by simp only [hls, hset', b0, b1, b2, b3, b4, b5, beq_self_eq_true]; rfl, by (first | omega | (dsimp only; omega))⟩, True.intro⟩ (Nat.le_refl _)
    rintro ⟨i, R2, X2⟩ ⟨hi3, hR2, hRX, hX2⟩
    dsimp only at hi3 hR2 hRX hX2 ⊢
    have hml : (lsC (ss.take i)).length = i := by rw [lsC_len, List.length_take, Nat.min_eq_left (by omega)]
    have htk : List.take i (lsC (ss.take i)) = lsC (ss.take i) := List.take_of_length_le (by rw [hml]; exact Nat.le_refl _)
    have r0 : (R2 == B + 1) = false := beq_ne (by omega)
    have r1 : (B + 1 == R2) = false := beq_ne (by omega)
    have x0 : (X2 == B + 1) = false := beq_ne (by omega)
    have x1 : (B + 1 == X2) = false := beq_ne (by omega)
    have x2 : (X2 == R2) = false := beq_ne (by omega)
    have x3 : (R2 == X2) = false := beq_ne (by omega)
    by_cases hi4 : i < 3
    · have hd : decide ((i : Int) < 3) = true := decide_eq_true (by omega)
      have u3 : (tcs us)[((i : Nat) : Int).toNat * 3 + 2]? = some (isl (gt7 us i).xs) := tcs_2 (by omega)
      have kc := c_CopyInts (gt7 us i).xs (hnu i (by omega)).2
      have hsu : lsC (ss.take i) ++ [isl (gt7 us i).xs] = lsC (ss.take (i + 1)) := by
        rw [← hsg i (by omega)]
        unfold lsC gS
        rw [List.take_add_one, List.map_append, List.getElem?_eq_getElem (by omega)]
        simp [show i < ss.length by omega]
      have hon := lsC_one (ss.take i)
      have hon2 : ∀ x : List Int, oneL [AV.sl 1 x.length (ints x)] = true := fun _ => rfl
      repeat' first
       | refine v_seq ?_ | refine v_block ?_ | refine v_ret ?_ | refine v_skip ?_ | (refine v_exit ?_; repeat' first | refine xB_eq ?_ | refine xB_ne rfl ?_)
       | ((first | refine rgA fun K hK => ?_ | refine rgB rfl fun K hK => ?_ | refine rgC rfl fun K hK => ?_); simp only [go_sem,simprocAttr,hon,hon2,hd,n0,hUl,hls,hml,htk,u3,r0,r1,x0,x1,x2,x3,hset_at,hset_hset])
       | (simp (disch := first | omega | rfl | (simp only [lnn]; omega)) only [spl])
       | (refine hK _ ?_; clear hK K)
       | (refine gdB_intro (fun h => ?_) (fun h => ?_) <;> simp only [go_sem,simprocAttr,h,hon,hon2,hd,n0,hUl,hls,hml,htk,u3,r0,r1,x0,x1,x2,x3,hset_at,hset_hset] <;> (have h' := h; try simp only [bl] at h'))
       | (refine v_cond rfl (fun h => ?_) (fun h => ?_) <;> first | (exact Bool.noConfusion h) | (have h' := h; try simp only [bl] at h'))
       | (refine r_ret ?_; simp only [resL, resA, Tryz.f11, lk_cons', lk_nil', Nat.reduceBEq]; first | exact ⟨rfl, Sb.nil _, rfl⟩ | refine ⟨rfl, sbt ?_, rfl⟩ | refine ⟨rfl, Sb.of_eq ?_, rfl⟩)
       | (refine And.intro (by first | exact True.intro | omega | rfl | exact Nat.le_of_ble_eq_true rfl | (simp only [lnn]; omega) | exact List.forall_mem_nil _ | (refine List.forall_mem_cons.2 ⟨⟨_, rfl⟩, ?_⟩; repeat' first | exact List.forall_mem_nil _ | refine List.forall_mem_cons.2 ⟨⟨_, rfl⟩, ?_⟩)) ?_)
       | ((first | refine call_pure' (kc) rfl ?_); simp only [go_sem,simprocAttr,hon,hon2,hd,n0,hUl,hls,hml,htk,u3,r0,r1,x0,x1,x2,x3,hset_at,hset_hset])
       | (simp only [go_sem,simprocAttr,u3,hls,hml,htk,hset_at,hset_hset,r0,r1,x0,x1,x2,x3])
       | fail
      refine ⟨(i + 1, X2, X2 + 1), ?_, ⟨by (first | omega | (dsimp only; omega)), by (first | omega | (dsimp only; omega)), by (first | omega | (dsimp only; omega)), by (first | omega | (dsimp only; omega))⟩, by (first | omega | (dsimp only; omega))⟩
      dsimp only
      rw [← hsu]
      exact ent_rows [(B + 1, [iv x.length, plS P]), (X2, lsC (ss.take i) ++ [isl (gt7 us i).xs])] (by (repeat' first | exact trivial | refine ⟨?_, ?_⟩ | rfl | (refine congrArg (fun z => some (AV.v (Value.int .i64 z))) ?_; omega))) rfl ⟨⟨by simp only [hls, hset', r0, r1, x0, x1, x2, x3, beq_self_eq_true], by (first | omega | (dsimp only; omega))⟩, ⟨by simp [hset', htk, isl], by (first | omega | (dsimp only; omega))⟩, True.intro⟩ (Nat.le_refl _)
    obtain rfl : i = 3 := by omega
    have hd : decide (((3 : Nat) : Int) < 3) = false := rfl
    have hsa : ss.take 3 = ss := by rw [← hssl]; exact List.take_length
    rw [hsa] at hml htk ⊢
    refine vc_ent ((ent_freezeH R2 (c := lsC ss) (by simp only [hls, hset', r0, r1, beq_self_eq_true]) (lsC_plain _)).trans (ent_rows (fr := [(1, .pt C 0), (3, iv x.length), (6, .sl 3 3 (tcs ts)), (30, iv n), (37, .lp (B + 1) 0), (39, lsA ss), (40, iv (3 : Nat))]) [(B + 1, [iv x.length, plS P])] ?_ rfl ⟨⟨?_, by (first | omega | (dsimp only; omega))⟩, True.intro⟩ (Nat.le_refl _))) ?_
    · have f1 : AV.fz R2 (lsC ss) (.ls R2 0 1 3) = lsA ss := by
        simp only [AV.fz, beq_self_eq_true, cond_true]
        rw [if_pos (by rw [hml]; exact Nat.le_refl _), List.drop_zero, List.take_of_length_le (by rw [hml]; exact Nat.le_refl _)]
        show AV.sl 1 3 (lsC ss) = .sl 1 ss.length (lsC ss)
        rw [hssl]
      have f3 : AV.fz R2 (lsC ss) (.lp (B + 1) 0) = .lp (B + 1) 0 := by simp only [AV.fz, r0, cond_false]
      have f4 : ∀ l q, AV.fz R2 (lsC ss) (.pt l q) = .pt l q := fun _ _ => rfl
      simp only [fzF, f1, f3, f4, fz_other, fz_sl]
      (repeat' first | exact trivial | refine ⟨?_, ?_⟩ | rfl | (refine congrArg (fun z => some (AV.v (Value.int .i64 z))) ?_; omega))
    · simp only [hfz', hls, hset', r0, r1, beq_self_eq_true, Option.map_some, fz_plainL _ _ plPl]
    repeat' first
     | refine v_seq ?_ | refine v_block ?_ | refine v_ret ?_ | refine v_skip ?_ | (refine v_exit ?_; repeat' first | refine xB_eq ?_ | refine xB_ne rfl ?_)
     | ((first | refine rgA fun K hK => ?_ | refine rgB rfl fun K hK => ?_ | refine rgC rfl fun K hK => ?_); simp only [go_sem,simprocAttr,hd,c0,n0,t2,bne_self_eq_false,hls,hset_at,hset_hset])
     | (simp (disch := first | omega | rfl | (simp only [lnn]; omega)) only [spl])
     | (refine hK _ ?_; clear hK K)
     | (refine gdB_intro (fun h => ?_) (fun h => ?_) <;> simp only [go_sem,simprocAttr,h,hd,c0,n0,t2,bne_self_eq_false,hls,hset_at,hset_hset] <;> (have h' := h; try simp only [bl] at h'))
     | (refine v_cond rfl (fun h => ?_) (fun h => ?_) <;> first | (exact Bool.noConfusion h) | (have h' := h; try simp only [bl] at h'))
     | (refine r_ret ?_; simp only [resL, resA, Tryz.f11, lk_cons', lk_nil', Nat.reduceBEq]; first | exact ⟨rfl, Sb.nil _, rfl⟩ | refine ⟨rfl, sbt ?_, rfl⟩ | refine ⟨rfl, Sb.of_eq ?_, rfl⟩)
     | (refine And.intro (by first | exact True.intro | omega | rfl | exact Nat.le_of_ble_eq_true rfl | (simp only [lnn]; omega) | exact List.forall_mem_nil _ | (refine List.forall_mem_cons.2 ⟨⟨_, rfl⟩, ?_⟩; repeat' first | exact List.forall_mem_nil _ | refine List.forall_mem_cons.2 ⟨⟨_, rfl⟩, ?_⟩)) ?_)
     | ((first | refine call_pure' (kj) rfl ?_ | refine call_pure' (kx) rfl ?_); simp only [go_sem,simprocAttr,hd,c0,n0,t2,bne_self_eq_false,hls,hset_at,hset_hset])
     | (simp only [go_sem,simprocAttr,c0,t2,hls,hset_at,hset_hset])
     | fail
    refine ⟨(n + 1, X2), ?_, by (first | omega | (dsimp only; omega)), by (first | omega | (dsimp only; omega))⟩
    exact ent_rows [] (by (repeat' first | exact trivial | refine ⟨?_, ?_⟩ | rfl | (refine congrArg (fun z => some (AV.v (Value.int .i64 z))) ?_; omega))) rfl True.intro (Nat.le_refl _)
end Go.Proofs.YtabmhfmglhjmjaaGreatDoor

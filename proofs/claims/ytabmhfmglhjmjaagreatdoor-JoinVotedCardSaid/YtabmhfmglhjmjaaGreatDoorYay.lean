/- Parts of the proof, put together by a program. -/
import Derived.Test.YtabmhfmglhjmjaaGreatDoorYae
import Derived.Test.YtabmhfmglhjmjaaGreatDoorYak
set_option linter.unusedVariables false
set_option linter.unusedSimpArgs false
set_option linter.unusedSectionVars false
namespace Go.Proofs.YtabmhfmglhjmjaaGreatDoor
open Go.Ab
attribute [local instance] drS
def ByNm (ys : List Tf) : Prop := ys.Pairwise fun a b => nmLt a.nm b.nm = true
def byN (ts : List Tf) : List Tf := ts.mergeSort fun a b => !nmLt b.nm a.nm
theorem byN_perm (ts : List Tf) : (byN ts).Perm ts := List.mergeSort_perm _ _
theorem byN_len (ts : List Tf) : (byN ts).length = ts.length := (byN_perm ts).length_eq
def NmU (ts : List Tf) : Prop := ts.Pairwise fun a b => a.nm ≠ b.nm
theorem TfOk.nmU {ts : List Tf} (h : TfOk ts) : NmU ts := by
  unfold NmU
  rw [List.pairwise_iff_getElem]
  intro i j hi hj hij
  have := h.uniq j i hij hj
  rwa [gt7_eq hi, gt7_eq hj] at this
theorem nmU_perm {xs ys : List Tf} (hp : xs.Perm ys) (h : NmU ys) : NmU xs := (hp.pairwise_iff (fun {a b} h => h.symm)).2 h
theorem byNm_of {ys : List Tf} (hu : NmU ys) (h : ∀ (i j : Nat) x y, i < j → ys[i]? = some x → ys[j]? = some y → nmLt y.nm x.nm = false) : ByNm ys := by
  unfold ByNm NmU at *
  rw [List.pairwise_iff_getElem] at hu ⊢
  intro i j hi hj hij
  have h1 := h i j _ _ hij (List.getElem?_eq_getElem hi) (List.getElem?_eq_getElem hj)
  have h2 := hu i j hi hj hij
  cases h3 : nmLt ys[i].nm ys[j].nm
  · exact absurd (nmLt_tri h3 h1) h2
  · rfl
theorem byN_sorted {ts : List Tf} (h : NmU ts) : ByNm (byN ts) := by
  have h1 : (byN ts).Pairwise fun a b => (!nmLt b.nm a.nm) = true := List.pairwise_mergeSort (fun a b c h1 h2 => by
    simp only [Bool.not_eq_true'] at h1 h2 ⊢
    exact nmLt_ntrans h2 h1) (fun a b => by
    cases h1 : nmLt b.nm a.nm
    · rfl
    · rw [nmLt_asymm h1]; rfl) ts
  refine byNm_of (nmU_perm (byN_perm ts) h) fun i j x y hij hx hy => ?_
  rw [List.pairwise_iff_getElem] at h1
  obtain ⟨hi, rfl⟩ := List.getElem?_eq_some_iff.1 hx
  obtain ⟨hj, rfl⟩ := List.getElem?_eq_some_iff.1 hy
  have := h1 i j hi hj hij
  simpa using this
theorem byNm_eq {xs ys : List Tf} (hp : xs.Perm ys) (hx : ByNm xs) (hy : ByNm ys) : xs = ys := by
  unfold ByNm at hx hy
  refine List.Perm.eq_of_pairwise (fun a b _ _ h1 h2 => ?_) hx hy hp
  rw [nmLt_asymm h1] at h2
  cases h2
theorem byN_eq {ts ys : List Tf} (h : NmU ts) (hp : ys.Perm ts) (hy : ByNm ys) : ys = byN ts := byNm_eq (hp.trans (byN_perm ts).symm) hy (byN_sorted h)
theorem byN_mem {ts : List Tf} {t : Tf} : t ∈ byN ts ↔ t ∈ ts := (byN_perm ts).mem_iff
def selN (ts : List Tf) (done : Nat → Bool) : Nat → Int
  | 0 => -1
  | i + 1 => bif !done i && (decide (selN ts done i < 0) || nmLt (gt7 ts i).nm (gt7 ts (selN ts done i).toNat).nm) then (i : Int) else selN ts done i
theorem selN_ok {ts : List Tf} {done : Nat → Bool} : ∀ n : Nat, (selN ts done n = -1 ∧ ∀ i, i < n → done i = true) ∨ ∃ i : Nat, selN ts done n = i ∧ i < n ∧ done i = false ∧ ∀ j, j < n → done j = false → nmLt (gt7 ts j).nm (gt7 ts i).nm = false
  | 0 => .inl ⟨rfl, fun i hi => by omega⟩
  | n + 1 => by
    rw [selN]
    cases hd : done n
    · simp only [Bool.not_false, Bool.true_and]
      rcases selN_ok (ts := ts) (done := done) n with ⟨h1, h2⟩ | ⟨i, h1, h2, h3, h4⟩
      · rw [h1]
        refine .inr ⟨n, rfl, by omega, hd, fun j hj hjd => ?_⟩
        by_cases e : j = n
        · subst e; exact nmLt_irrefl _
        · rw [h2 j (by omega)] at hjd; cases hjd
      · rw [h1, show decide ((i : Int) < 0) = false from decide_eq_false (by omega), Bool.false_or, Int.toNat_natCast]
        cases hl : nmLt (gt7 ts n).nm (gt7 ts i).nm
        · refine .inr ⟨i, rfl, by omega, h3, fun j hj hjd => ?_⟩
          by_cases e : j = n
          · subst e; exact hl
          · exact h4 j (by omega) hjd
        · refine .inr ⟨n, rfl, by omega, hd, fun j hj hjd => ?_⟩
          by_cases e : j = n
          · subst e; exact nmLt_irrefl _
          · cases hx : nmLt (gt7 ts j).nm (gt7 ts n).nm
            · rfl
            · have := nmLt_trans hx hl
              rw [h4 j (by omega) hjd] at this
              cases this
    · simp only [Bool.not_true, Bool.false_and, cond_false]
      rcases selN_ok (ts := ts) (done := done) n with ⟨h1, h2⟩ | ⟨i, h1, h2, h3, h4⟩
      · exact .inl ⟨h1, fun i hi => by
          by_cases e : i = n
          · subst e; exact hd
          · exact h2 i (by omega)⟩
      · refine .inr ⟨i, h1, by omega, h3, fun j hj hjd => ?_⟩
        by_cases e : j = n
        · subst e; rw [hd] at hjd; cases hjd
        · exact h4 j (by omega) hjd
structure DoneOk (ts : List Tf) (done : Nat → Bool) (n : Nat) : Prop where
  mem : ∀ i, i < ts.length → (done i = true ↔ gt7 ts i ∈ (byN ts).take n)
theorem take_succ_mem {α : Type} {l : List α} {n : Nat} (hn : n < l.length) {x : α} : x ∈ l.take (n + 1) ↔ x ∈ l.take n ∨ x = l[n] := by
  rw [List.take_succ_eq_append_getElem hn, List.mem_append, List.mem_singleton]
theorem sel_next {ts : List Tf} (h : TfOk ts) {done : Nat → Bool} {n : Nat} (hn : n < ts.length) (hd : DoneOk ts done n) :
    ∃ i : Nat, selN ts done ts.length = i ∧ i < ts.length ∧ gt7 ts i = (byN ts)[n]'(by rw [byN_len]; exact hn) ∧ DoneOk ts (fun j => if j = i then true else done j) (n + 1) := by
  have hu := h.nmU
  have hs := byN_sorted hu
  have hl : n < (byN ts).length := by rw [byN_len]; exact hn
  unfold ByNm at hs
  rw [List.pairwise_iff_getElem] at hs
  obtain ⟨q, hq, hqe⟩ : ∃ q, q < ts.length ∧ gt7 ts q = (byN ts)[n] := by
    have := byN_mem.1 (List.getElem_mem hl)
    obtain ⟨q, hq, he⟩ := List.getElem_of_mem this
    exact ⟨q, hq, by rw [gt7_eq hq, he]⟩
  have hqd : done q = false := by
    cases hx : done q
    · rfl
    · have := (hd.mem q hq).1 hx
      rw [hqe] at this
      obtain ⟨m, hm, he⟩ := List.getElem_of_mem this
      rw [List.length_take] at hm
      rw [List.getElem_take] at he
      have := hs m n (by omega) hl (by omega)
      rw [he, nmLt_irrefl] at this
      cases this
  rcases selN_ok (ts := ts) (done := done) ts.length with ⟨_, h2⟩ | ⟨i, h1, h2, h3, h4⟩
  · rw [h2 q hq] at hqd; cases hqd
  · have hin : gt7 ts i ∈ byN ts := byN_mem.2 (by rw [gt7_eq h2]; exact List.getElem_mem h2)
    obtain ⟨m, hm, he⟩ := List.getElem_of_mem hin
    have hmn : ¬ m < n := fun hlt => by
      have : gt7 ts i ∈ (byN ts).take n := by rw [← he]; exact List.mem_take_iff_getElem.2 ⟨m, by omega, rfl⟩
      rw [(hd.mem i h2).2 this] at h3; cases h3
    have hie : gt7 ts i = (byN ts)[n] := by
      by_cases e : m = n
      · subst e; exact he.symm
      · have a1 := hs n m hl hm (by omega)
        have a2 := h4 q hq hqd
        rw [hqe, ← he, a1] at a2
        cases a2
    refine ⟨i, h1, h2, hie, ⟨fun j hj => ?_⟩⟩
    rw [take_succ_mem hl, ← hd.mem j hj]
    by_cases e : j = i
    · subst e; simp [hie]
    · rw [if_neg e]
      constructor
      · exact .inl
      · rintro (hx | hx)
        · exact hx
        · exfalso
          rw [← hie] at hx
          rcases Nat.lt_or_gt_of_ne e with h5 | h5
          · exact h.uniq i j h5 h2 (by rw [hx])
          · exact h.uniq j i h5 hj (by rw [hx])
theorem done_start (ts : List Tf) : DoneOk ts (fun _ => false) 0 := ⟨fun i hi => by simp⟩
structure Dg where
  nm : ByteArray
  lo : Int
  hi : Int
def Dg.cells (d : Dg) : List AV := [.v (.string d.nm), iv d.lo, iv d.hi]
def dcs (l : List Dg) : List AV := l.flatMap Dg.cells
theorem dcs_len (l : List Dg) : (dcs l).length = l.length * 3 := fm_len (c := Dg.cells) (fun _ => rfl) l
theorem dcs_plain : ∀ l : List Dg, plainL (dcs l) = true
  | [] => rfl
  | d :: l => by
    have h := dcs_plain l
    unfold dcs at h ⊢
    rw [List.flatMap_cons]
    simp only [Dg.cells, List.cons_append, List.nil_append, plainL, AV.plain, iv, h, Bool.and_self]
def gd7 (l : List Dg) (i : Nat) : Dg := l.getD i ⟨ByteArray.empty, 0, 0⟩
theorem gd7_eq {l : List Dg} {i : Nat} (h : i < l.length) : gd7 l i = l[i] := by simp [gd7, h]
theorem dcs_at {l : List Dg} {i : Nat} (h : i < l.length) : ((dcs l).drop (i * 3)).take 3 = [.v (.string (gd7 l i).nm), iv (gd7 l i).lo, iv (gd7 l i).hi] := by
  rw [gd7_eq h]; exact fm_at (c := Dg.cells) (fun _ => rfl) h
theorem dcs_0 {l : List Dg} {i : Nat} (h : i < l.length) : (dcs l)[i * 3]? = some (.v (.string (gd7 l i).nm)) := by
  rw [gd7_eq h]; exact fm_get (c := Dg.cells) (k := 3) (fun _ => rfl) h (j := 0) (by omega)
theorem dcs_1 {l : List Dg} {i : Nat} (h : i < l.length) : (dcs l)[i * 3 + 1]? = some (iv (gd7 l i).lo) := by
  rw [gd7_eq h]; exact fm_get (c := Dg.cells) (k := 3) (fun _ => rfl) h (j := 1) (by omega)
theorem dcs_2 {l : List Dg} {i : Nat} (h : i < l.length) : (dcs l)[i * 3 + 2]? = some (iv (gd7 l i).hi) := by
  rw [gd7_eq h]; exact fm_get (c := Dg.cells) (k := 3) (fun _ => rfl) h (j := 2) (by omega)
theorem rev_ind {α : Type} {P : List α → Prop} (h0 : P []) (h1 : ∀ l t, P l → P (l ++ [t])) (l : List α) : P l := by
  have key : ∀ m : List α, P m.reverse := fun m => by
    induction m with
    | nil => exact h0
    | cons x m ih => rw [List.reverse_cons]; exact h1 _ _ ih
  have := key l.reverse
  rwa [List.reverse_reverse] at this
def stepD (nm : ByteArray) (p : Int) : List Dg → List Dg
  | [] => [⟨nm, p, p⟩]
  | r :: l => bif nmEq r.nm nm && r.hi == p - 1 then ⟨r.nm, r.lo, p⟩ :: l else ⟨nm, p, p⟩ :: r :: l
def badAt (t : Tf) (ms : List Int) (limit : Int) (p : Nat) : Bool := hasAt t (p : Nat) && !within (smp t (p : Nat) - gi ms (p : Nat)) (-limit) limit
def dmgTo (t : Tf) (ms : List Int) (limit : Int) (R : List Dg) : Nat → List Dg
  | 0 => R
  | p + 1 => bif badAt t ms limit p then stepD t.nm (p : Nat) (dmgTo t ms limit R p) else dmgTo t ms limit R p
def dmgR (ms : List Int) (limit : Int) (n : Nat) (order : List Tf) : List Dg := order.foldl (fun R t => dmgTo t ms limit R n) []
def dmgs (ts : List Tf) (limit : Int) (n : Nat) : List Dg := (dmgR (meds ts n) limit n (byN ts)).reverse
theorem dmgR_snoc (ms : List Int) (limit : Int) (n : Nat) (l : List Tf) (t : Tf) : dmgR ms limit n (l ++ [t]) = dmgTo t ms limit (dmgR ms limit n l) n := by simp [dmgR]
theorem stepD_len (nm : ByteArray) (p : Int) (R : List Dg) : (stepD nm p R).length ≤ R.length + 1 := by
  cases R with
  | nil => simp [stepD]
  | cons r l => rw [stepD]; cases nmEq r.nm nm && r.hi == p - 1 <;> simp
theorem dmgTo_len (t : Tf) (ms : List Int) (limit : Int) (R : List Dg) : ∀ n, (dmgTo t ms limit R n).length ≤ R.length + n
  | 0 => by simp [dmgTo]
  | n + 1 => by
    have ih := dmgTo_len t ms limit R n
    have := stepD_len t.nm (n : Nat) (dmgTo t ms limit R n)
    rw [dmgTo]
    cases badAt t ms limit n
    · rw [cond_false]; omega
    · rw [cond_true]; omega
theorem dmgR_len (ms : List Int) (limit : Int) (n : Nat) (l : List Tf) : (dmgR ms limit n l).length ≤ l.length * n := by
  refine rev_ind (P := fun l => (dmgR ms limit n l).length ≤ l.length * n) ?_ (fun l t ih => ?_) l
  · simp [dmgR]
  · skip
    have := dmgTo_len t ms limit (dmgR ms limit n l) n
    rw [dmgR_snoc, List.length_append, List.length_singleton, Nat.succ_mul]
    omega
theorem stepD_in {P : Dg → Prop} {nm : ByteArray} {p : Int} {R : List Dg} (h : ∀ d ∈ R, P d) (h1 : P ⟨nm, p, p⟩) (h2 : ∀ lo hi, P ⟨nm, lo, hi⟩ → P ⟨nm, lo, p⟩) : ∀ d ∈ stepD nm p R, P d := by
  cases R with
  | nil => intro d hd; simp [stepD] at hd; subst hd; exact h1
  | cons r l =>
    rw [stepD]
    cases hc : nmEq r.nm nm && r.hi == p - 1
    · intro d hd
      rw [cond_false] at hd
      rcases List.mem_cons.1 hd with rfl | hd
      · exact h1
      · exact h d hd
    · intro d hd
      rw [cond_true] at hd
      simp only [Bool.and_eq_true] at hc
      have e := nmEq_iff.1 hc.1
      rcases List.mem_cons.1 hd with rfl | hd
      · have := h r (by simp)
        obtain ⟨a, b, c⟩ := r
        dsimp only at e
        subst e
        exact h2 b c this
      · exact h d (by simp [hd])
theorem dmgTo_in {P : Dg → Prop} {t : Tf} {ms : List Int} {limit : Int} {R : List Dg} (h : ∀ d ∈ R, P d) : ∀ n : Nat, (∀ p : Nat, p < n → P ⟨t.nm, p, p⟩) → (∀ (p : Nat) lo hi, p < n → P ⟨t.nm, lo, hi⟩ → P ⟨t.nm, lo, p⟩) → ∀ d ∈ dmgTo t ms limit R n, P d
  | 0, _, _ => h
  | n + 1, h1, h2 => by
    have ih := dmgTo_in (t := t) (ms := ms) (limit := limit) h n (fun p hp => h1 p (by omega)) (fun p lo hi hp => h2 p lo hi (by omega))
    rw [dmgTo]
    cases badAt t ms limit n
    · exact ih
    · exact stepD_in ih (h1 n (by omega)) fun lo hi => h2 n lo hi (by omega)
theorem dmgR_names (ms : List Int) (limit : Int) (n : Nat) (l : List Tf) : ∀ d ∈ dmgR ms limit n l, ∃ t ∈ l, t.nm = d.nm := by
  refine rev_ind (P := fun l => ∀ d ∈ dmgR ms limit n l, ∃ t ∈ l, t.nm = d.nm) ?_ (fun l t ih => ?_) l
  · intro d hd; simp [dmgR] at hd
  · skip
    rw [dmgR_snoc]
    exact dmgTo_in (P := fun d => ∃ t' ∈ l ++ [t], t'.nm = d.nm) (fun d hd => by
      obtain ⟨t', h1, h2⟩ := ih d hd
      exact ⟨t', by simp [h1], h2⟩) n (fun p _ => ⟨t, by simp, rfl⟩) (fun p lo hi _ h => h)
end Go.Proofs.YtabmhfmglhjmjaaGreatDoor
set_option maxRecDepth 100000
set_option maxHeartbeats 4000000
set_option linter.unusedSimpArgs false
set_option linter.unusedVariables false
set_option linter.unusedSectionVars false
namespace Go.Proofs.YtabmhfmglhjmjaaGreatDoor
open Go.Ab Go.RowKit
variable [Dr]
theorem tcs_oneD : ∀ ts : List Tf, oneL (tcs ts) = true
  | [] => rfl
  | t :: ts => by
    have := tcs_oneD ts
    unfold tcs oneL at *
    rw [List.flatMap_cons, List.all_append, this]
    rfl
theorem f_CloneT (ts : List Tf) (hl : Len ts.length) : Fresh Tryz.prog 117 [tsl ts] 3 ts.length (tcs ts) := by
  have hL := tcs_len ts
  have hone := tcs_oneD ts
  refine fresh_intro evOk [2, 5] Tryz.func117 rfl Tryz.call117 ?_
  unfold Len at hl
  repeat' first
   | refine v_seq ?_ | refine v_block ?_ | refine v_ret ?_ | refine v_skip ?_ | (refine v_exit ?_; repeat' first | refine xB_eq ?_ | refine xB_ne rfl ?_)
   | ((first | refine rgA fun K hK => ?_ | refine rgB rfl fun K hK => ?_ | refine rgC rfl fun K hK => ?_); simp only [go_sem,simprocAttr,hL,hone])
   | (simp (disch := first | omega | rfl | (simp only [lnn]; omega)) only [spl])
   | (refine hK _ ?_; clear hK K)
   | (refine gdB_intro (fun h => ?_) (fun h => ?_) <;> simp only [go_sem,simprocAttr,h,hL,hone] <;> (have h' := h; try simp only [bl] at h'))
   | (refine v_cond rfl (fun h => ?_) (fun h => ?_) <;> first | (exact Bool.noConfusion h) | (have h' := h; try simp only [bl] at h'))
   | (refine r_ret ?_; simp only [resL, resA, Tryz.f117, lk_cons', lk_nil', Nat.reduceBEq]; first | exact ⟨rfl, Sb.nil _, rfl⟩ | refine ⟨rfl, sbt ?_, rfl⟩ | refine ⟨rfl, Sb.of_eq ?_, rfl⟩)
   | (refine And.intro (by first | exact True.intro | omega | rfl | exact Nat.le_of_ble_eq_true rfl | (simp only [lnn]; omega) | exact List.forall_mem_nil _ | (refine List.forall_mem_cons.2 ⟨⟨_, rfl⟩, ?_⟩; repeat' first | exact List.forall_mem_nil _ | refine List.forall_mem_cons.2 ⟨⟨_, rfl⟩, ?_⟩)) ?_)
   | (refine And.intro (fun h0 => ?_) ?_)
   | fail
  · obtain rfl := List.eq_nil_of_length_eq_zero h0
    refine ⟨_, Ent.refl _, ?_⟩
    simp only [resL, resA, Tryz.f117, lk_cons', lk_nil', Nat.reduceBEq]
    exact ⟨_, rfl, rfl, rfl⟩
  · refine ⟨_, Ent.refl _, ?_⟩
    simp only [resL, resA, Tryz.f117, lk_cons', lk_nil', Nat.reduceBEq]
    exact ⟨_, rfl, rfl, tcs_plain _⟩
theorem c_DI1 (x y : Tf) : Pure Tryz.prog 119 ([.ag x.cells, .ag y.cells] ++ []) (iv (cmpS x.nm y.nm)) := by
  unfold Tf.cells
  refine p_intro evOk [] Tryz.func119 rfl Tryz.call119 ?_
  repeat' first
   | refine v_seq ?_ | refine v_block ?_ | refine v_ret ?_ | refine v_skip ?_ | (refine v_exit ?_; repeat' first | refine xB_eq ?_ | refine xB_ne rfl ?_)
   | ((first | refine rgA fun K hK => ?_ | refine rgB rfl fun K hK => ?_ | refine rgC rfl fun K hK => ?_); simp only [go_sem,simprocAttr])
   | (simp (disch := first | omega | rfl | (simp only [lnn]; omega)) only [spl])
   | (refine hK _ ?_; clear hK K)
   | (refine gdB_intro (fun h => ?_) (fun h => ?_) <;> simp only [go_sem,simprocAttr,h] <;> (have h' := h; try simp only [bl] at h'))
   | (refine v_cond rfl (fun h => ?_) (fun h => ?_) <;> first | (exact Bool.noConfusion h) | (have h' := h; try simp only [bl] at h'))
   | (refine r_ret ?_; simp only [resL, resA, Tryz.f119, lk_cons', lk_nil', Nat.reduceBEq]; first | exact ⟨rfl, Sb.nil _, rfl⟩ | refine ⟨rfl, sbt ?_, rfl⟩ | refine ⟨rfl, Sb.of_eq ?_, rfl⟩)
   | (refine And.intro (by first | exact True.intro | omega | rfl | exact Nat.le_of_ble_eq_true rfl | (simp only [lnn]; omega) | exact List.forall_mem_nil _ | (refine List.forall_mem_cons.2 ⟨⟨_, rfl⟩, ?_⟩; repeat' first | exact List.forall_mem_nil _ | refine List.forall_mem_cons.2 ⟨⟨_, rfl⟩, ?_⟩)) ?_)
   | ((first | refine call_pure' (c_CompareS _ _) rfl ?_); simp only [go_sem,simprocAttr])
   | fail
  all_goals rfl
theorem m_sortTf (ts : List Tf) (h1 : 1 ≤ ts.length) (h6 : ts.length ≤ 6) (H : Hp) (nx r : Nat) (hr : H r = some (tcs ts)) (K : AV → Hp → Nat → Prop)
    (hK : ∀ ys : List Tf, ys.Perm ts → (∀ (i j : Nat) x y, i < j → ys[i]? = some x → ys[j]? = some y → nmLt y.nm x.nm = false) → K (.tu []) (hset H r (some (tcs ys))) nx) :
    CallM Tryz.prog 118 H nx [.ls r 0 3 ts.length, .fn (.func 119) [] []] K := by
  exact m_sortK Tryz.sortTf (γ := Tf) 3 (fun w => run_agg tyOk tab102 w) (fun w => run_size tyOk tab102 w) Tryz.call118 Tf.cells (fun x y => cmpS x.nm y.nm) (nm_swo fun t : Tf => t.nm) 119 Tryz.call119 [] rfl (cmpA_of (@c_DI1 drS)) H nx r ts
    h1 (by omega) hr (fun _ _ => rfl) (fun x _ => by simp [Tf.cells, plainL, AV.plain, ints_plain]) (fun _ _ => rfl) K (fun ys hp hst => hK ys hp fun i j x y hij hx hy => by
      have := hst i j x y hij hx hy
      rw [← cmpS_lt]
      exact decide_eq_false (by omega))
def dmE (ts : List Tf) (n limit : Int) : Int := firstE [medE ts n, unlessE (within limit 0 65534) 2]
theorem c_DamagedErr (ts : List Tf) (n limit : Int) (hl : Len ts.length) (hn : ∀ i, i < ts.length → Len (gt7 ts i).nm.size ∧ Len (gt7 ts i).xs.length) (he : dmE ts n limit ≠ 0) : Pure Tryz.prog 55 [tsl ts, iv n, iv limit] (.tu [.sl 3 0 [], iv (dmE ts n limit)]) := by
  have km := c_Median ts n hl hn
  have kf := c_first [medE ts n, unlessE (within limit 0 65534) 2] (len_lit rfl)
  change Pure _ _ _ (iv (dmE ts n limit)) at kf
  have hb : (dmE ts n limit != 0) = true := by simpa using he
  generalize medL ts n = L at *
  refine p_intro evOk [11, 13, 34, 36] Tryz.func55 rfl Tryz.call55 ?_
  repeat' first
   | refine v_seq ?_ | refine v_block ?_ | refine v_ret ?_ | refine v_skip ?_ | (refine v_exit ?_; repeat' first | refine xB_eq ?_ | refine xB_ne rfl ?_)
   | ((first | refine rgA fun K hK => ?_ | refine rgB rfl fun K hK => ?_ | refine rgC rfl fun K hK => ?_); simp only [go_sem,simprocAttr,hb])
   | (simp (disch := first | omega | rfl | (simp only [lnn]; omega)) only [spl])
   | (refine hK _ ?_; clear hK K)
   | (refine gdB_intro (fun h => ?_) (fun h => ?_) <;> simp only [go_sem,simprocAttr,h,hb] <;> (have h' := h; try simp only [bl] at h'))
   | (refine v_cond rfl (fun h => ?_) (fun h => ?_) <;> first | (exact Bool.noConfusion h) | (have h' := h; try simp only [bl] at h'))
   | (refine r_ret ?_; simp only [resL, resA, Tryz.f55, lk_cons', lk_nil', Nat.reduceBEq]; first | exact ⟨rfl, Sb.nil _, rfl⟩ | refine ⟨rfl, sbt ?_, rfl⟩ | refine ⟨rfl, Sb.of_eq ?_, rfl⟩)
   | (refine And.intro (by first | exact True.intro | omega | rfl | exact Nat.le_of_ble_eq_true rfl | (simp only [lnn]; omega) | exact List.forall_mem_nil _ | (refine List.forall_mem_cons.2 ⟨⟨_, rfl⟩, ?_⟩; repeat' first | exact List.forall_mem_nil _ | refine List.forall_mem_cons.2 ⟨⟨_, rfl⟩, ?_⟩)) ?_)
   | ((first | refine call_pure' (km) rfl ?_ | refine call_pure' (c_within _ _ _) rfl ?_ | refine call_pure' (c_unless _ _) rfl ?_ | refine call_pure' (kf) rfl ?_); simp only [go_sem,simprocAttr,hb])
   | fail
  all_goals rfl
theorem dcs_one : ∀ l : List Dg, oneL (dcs l) = true
  | [] => rfl
  | d :: l => by
    have := dcs_one l
    unfold dcs oneL at *
    rw [List.flatMap_cons, List.all_append, this]
    rfl
theorem badAt_eq (t : Tf) (ms : List Int) (limit : Int) (p : Nat) (h0 : 0 ≤ limit) : badAt t ms limit p = (hasAt t (p : Nat) && !decide (((smp t (p : Nat) - gi ms (p : Nat)).natAbs : Int) ≤ limit)) := by
  unfold badAt within
  congr 2
  rw [Bool.eq_iff_iff]
  simp
  omega
theorem c_DamagedG (ts : List Tf) (n limit : Int) (hl : Len ts.length) (hn : ∀ i, i < ts.length → Len (gt7 ts i).nm.size ∧ Len (gt7 ts i).xs.length) (he : dmE ts n limit = 0) : Pure Tryz.prog 55 [tsl ts, iv n, iv limit] (.tu [.sl 3 (dmgs ts limit n.toNat).length (dcs (dmgs ts limit n.toNat)), iv 0]) := by
  have hf := firstE_zero he
  have hm0 : medE ts n = 0 := hf _ (by simp)
  have hlim := within_iff.1 (unlessE_zero (by decide) (hf (unlessE (within limit 0 65534) 2) (by simp)))
  have hwl : within limit 0 65534 = true := within_iff.2 hlim
  obtain ⟨hc0, hnb, _⟩ := medE_zero hm0
  obtain ⟨hT, _⟩ := ckT_zero hc0
  have h6 := hT.n6
  have h1 := hT.n1
  obtain ⟨N, rfl⟩ : ∃ N : Nat, n = N := ⟨n.toNat, by omega⟩
  rw [Int.toNat_natCast]
  have km := c_Median ts N hl hn
  rw [hm0, show medL ts (N : Int) = meds ts N by unfold medL; rw [hm0, Int.toNat_natCast]; rfl] at km
  have hml := meds_len ts N
  have kf := c_first [medE ts (N : Int), unlessE (within limit 0 65534) 2] (len_lit rfl)
  change Pure _ _ _ (iv (dmE ts (N : Int) limit)) at kf
  rw [hm0, hwl] at kf
  rw [he] at kf
  have n0 : ((0 : Nat) : Int) = 0 := rfl
  have kcl := f_CloneT ts hl
  have hL := tcs_len ts
  have hso := m_sortTf ts h1 h6 (hset emp 0 (some (tcs ts))) 1 0 (hset_at _ _ _)
  refine p_intro evOk [11, 13, 34, 36] Tryz.func55 rfl Tryz.call55 ?_
  repeat' first
   | refine v_seq ?_ | refine v_block ?_ | refine v_ret ?_ | refine v_skip ?_ | (refine v_exit ?_; repeat' first | refine xB_eq ?_ | refine xB_ne rfl ?_)
   | ((first | refine rgA fun K hK => ?_ | refine rgB rfl fun K hK => ?_ | refine rgC rfl fun K hK => ?_); simp only [go_sem,simprocAttr,hwl,n0,bne_self_eq_false,hset_at,hset_hset])
   | (simp (disch := first | omega | rfl | (simp only [lnn]; omega)) only [spl])
   | (refine hK _ ?_; clear hK K)
   | (refine gdB_intro (fun h => ?_) (fun h => ?_) <;> simp only [go_sem,simprocAttr,h,hwl,n0,bne_self_eq_false,hset_at,hset_hset] <;> (have h' := h; try simp only [bl] at h'))
   | (refine v_cond rfl (fun h => ?_) (fun h => ?_) <;> first | (exact Bool.noConfusion h) | (have h' := h; try simp only [bl] at h'))
   | (refine r_ret ?_; simp only [resL, resA, Tryz.f55, lk_cons', lk_nil', Nat.reduceBEq]; first | exact ⟨rfl, Sb.nil _, rfl⟩ | refine ⟨rfl, sbt ?_, rfl⟩ | refine ⟨rfl, Sb.of_eq ?_, rfl⟩)
   | (refine And.intro (by first | exact True.intro | omega | rfl | exact Nat.le_of_ble_eq_true rfl | (simp only [lnn]; omega) | exact List.forall_mem_nil _ | (refine List.forall_mem_cons.2 ⟨⟨_, rfl⟩, ?_⟩; repeat' first | exact List.forall_mem_nil _ | refine List.forall_mem_cons.2 ⟨⟨_, rfl⟩, ?_⟩)) ?_)
   | ((first | refine call_pure' (km) rfl ?_ | refine call_pure' (c_within _ _ _) rfl ?_ | refine call_pure' (c_unless _ _) rfl ?_ | refine call_pure' (kf) rfl ?_); simp only [go_sem,simprocAttr,hwl,n0,bne_self_eq_false,hset_at,hset_hset])
   | (refine call_fresh kcl (SbL.refl _) (by simp [plainL, AV.plain, tcs_plain]) ?_; simp only [cmK, go_sem,simprocAttr,hset_at,hset_hset])
   | (refine hso _ (fun ys hp hst => ?_); simp only [cmK, go_sem,simprocAttr,hset_at,hset_hset])
   | fail
  have hys : ys = byN ts := byN_eq hT.nmU hp (byNm_of (nmU_perm hp hT.nmU) hst)
  subst hys
  have hbl := byN_len ts
  have hbL := tcs_len (byN ts)
  rw [hbl] at hbL
  obtain ⟨R, hR⟩ : ∃ R : Nat → List Dg, ∀ i, R i = dmgR (meds ts N) limit N ((byN ts).take i) := ⟨_, fun _ => rfl⟩
  have hRl : ∀ i, i ≤ ts.length → (R i).length ≤ 6 * N := fun i hi => by
    rw [hR]
    refine Nat.le_trans (dmgR_len _ _ _ _) (Nat.mul_le_mul_right _ ?_)
    rw [List.length_take, hbl]; omega
  refine v_loop (T := Nat × Nat × Nat) (fun x => ⟨[(1, iv N), (2, iv limit), (8, isl (meds ts N)), (37, .ls 0 0 3 ts.length), (38, iv ts.length), (39, iv x.1), (11, .ls x.2.1 0 3 (R x.1).length)], hls [(0, tcs (byN ts)), (x.2.1, dcs (R x.1).reverse)], x.2.2, (110, 0, 0)⟩) (fun x => x.1 ≤ ts.length ∧ 1 ≤ x.2.1 ∧ x.2.1 < x.2.2) (fun x => ts.length - x.1) (0, 1, 2) ⟨by (first | omega | (dsimp only; omega)), by (first | omega | (dsimp only; omega)), by (first | omega | (dsimp only; omega))⟩ ?_ ?_
  · have hR0 : R 0 = [] := by rw [hR]; rfl
    dsimp only
    rw [hR0]
    exact ent_rows [(0, tcs (byN ts)), (1, dcs ([] : List Dg))] (by (repeat' first | exact trivial | refine ⟨?_, ?_⟩ | rfl | (refine congrArg (fun z => some (AV.v (Value.int .i64 z))) ?_; omega))) rfl ⟨⟨by simp [hset', hls], by (first | omega | (dsimp only; omega))⟩, ⟨by simp [hset', hls, dcs], by (first | omega | (dsimp only; omega))⟩, True.intro⟩ (Nat.le_refl _)
  rintro ⟨i, r, Y⟩ ⟨hi, hr, hrY⟩
  dsimp only at hi hr hrY ⊢
  have q0 : (r == 0) = false := beq_ne (by omega)
  have q1 : (0 == r) = false := beq_ne (by omega)
  have y0 : (Y == 0) = false := beq_ne (by omega)
  have y1 : (0 == Y) = false := beq_ne (by omega)
  have y2 : (Y == r) = false := beq_ne (by omega)
  have y3 : (r == Y) = false := beq_ne (by omega)
  have hRi := hRl i hi
  by_cases hi2 : i < ts.length
  · have hd : decide ((i : Int) < ts.length) = true := decide_eq_true (by omega)
    obtain ⟨t, ht⟩ : ∃ t, gt7 (byN ts) i = t := ⟨_, rfl⟩
    have g1 : List.take 3 (List.drop (((i : Nat) : Int).toNat * 3) (tcs (byN ts))) = [.v (.string t.nm), iv t.lag, isl t.xs] := by rw [← ht]; exact tcs_at (by omega)
    have e0 : splice [AV.v (.string ByteArray.empty), AV.v (.int .i64 0), AV.v (.slice none 0 0)] 0 [.v (.string t.nm), iv t.lag, isl t.xs] = [.v (.string t.nm), iv t.lag, isl t.xs] := splice_all rfl
    have htm : t ∈ ts := by rw [← byN_mem, ← ht, gt7_eq (by omega)]; exact List.getElem_mem _
    obtain ⟨j, hj, hjt⟩ : ∃ j, j < ts.length ∧ gt7 ts j = t := by
      obtain ⟨j, hj, h⟩ := List.mem_iff_getElem.1 htm
      exact ⟨j, hj, by rw [gt7_eq hj]; exact h⟩
    have hlag := hT.lag j hj
    have hlen := hT.len j hj
    have hsm := fun p => smp_bound hT hj p
    rw [hjt] at hlag hlen hsm
    have hRs : R (i + 1) = dmgTo t (meds ts N) limit (R i) N := by
      rw [hR, hR, List.take_succ_eq_append_getElem (by omega), dmgR_snoc, ← gt7_eq (by omega), ht]
    obtain ⟨D, hD⟩ : ∃ D : Nat → List Dg, ∀ p, D p = dmgTo t (meds ts N) limit (R i) p := ⟨_, fun _ => rfl⟩
    have hDl : ∀ p, p ≤ N → (D p).length ≤ 2000 := fun p hp => by
      rw [hD]
      have := dmgTo_len t (meds ts N) limit (R i) p
      omega
    repeat' first
     | refine v_seq ?_ | refine v_block ?_ | refine v_ret ?_ | refine v_skip ?_ | (refine v_exit ?_; repeat' first | refine xB_eq ?_ | refine xB_ne rfl ?_)
     | ((first | refine rgA fun K hK => ?_ | refine rgB rfl fun K hK => ?_ | refine rgC rfl fun K hK => ?_); simp only [go_sem,simprocAttr,hd,n0,hls,hbL,g1,e0,q0,q1,y0,y1,y2,y3,hset_at,hset_hset])
     | (simp (disch := first | omega | rfl | (simp only [lnn]; omega)) only [spl])
     | (refine hK _ ?_; clear hK K)
     | (refine gdB_intro (fun h => ?_) (fun h => ?_) <;> simp only [go_sem,simprocAttr,h,hd,n0,hls,hbL,g1,e0,q0,q1,y0,y1,y2,y3,hset_at,hset_hset] <;> (have h' := h; try simp only [bl] at h'))
     | (refine v_cond rfl (fun h => ?_) (fun h => ?_) <;> first | (exact Bool.noConfusion h) | (have h' := h; try simp only [bl] at h'))
     | (refine r_ret ?_; simp only [resL, resA, Tryz.f55, lk_cons', lk_nil', Nat.reduceBEq]; first | exact ⟨rfl, Sb.nil _, rfl⟩ | refine ⟨rfl, sbt ?_, rfl⟩ | refine ⟨rfl, Sb.of_eq ?_, rfl⟩)
     | (refine And.intro (by first | exact True.intro | omega | rfl | exact Nat.le_of_ble_eq_true rfl | (simp only [lnn]; omega) | exact List.forall_mem_nil _ | (refine List.forall_mem_cons.2 ⟨⟨_, rfl⟩, ?_⟩; repeat' first | exact List.forall_mem_nil _ | refine List.forall_mem_cons.2 ⟨⟨_, rfl⟩, ?_⟩)) ?_)
     | fail
    refine v_loop (T := Nat × Nat × Nat) (fun x => ⟨[(1, iv N), (2, iv limit), (8, isl (meds ts N)), (37, .ls 0 0 3 ts.length), (38, iv ts.length), (39, iv i), (13, .lp Y 0), (43, iv N), (44, iv x.1), (11, .ls x.2.1 0 3 (D x.1).length)], hls [(0, tcs (byN ts)), (Y, [.v (.string t.nm), iv t.lag, isl t.xs]), (x.2.1, dcs (D x.1).reverse)], x.2.2, (110, 0, 0)⟩) (fun x => x.1 ≤ N ∧ 1 ≤ x.2.1 ∧ x.2.1 ≠ Y ∧ x.2.1 < x.2.2 ∧ Y < x.2.2) (fun x => N - x.1) (0, r, Y + 1) ⟨by (first | omega | (dsimp only; omega)), by (first | omega | (dsimp only; omega)), by (first | omega | (dsimp only; omega)), by (first | omega | (dsimp only; omega)), by (first | omega | (dsimp only; omega))⟩ ?_ ?_
    · have hD0 : D 0 = R i := by rw [hD]; rfl
      dsimp only
      rw [hD0]
      exact ent_rows [(0, tcs (byN ts)), (Y, [.v (.string t.nm), iv t.lag, isl t.xs]), (r, dcs (R i).reverse)] (by (repeat' first | exact trivial | refine ⟨?_, ?_⟩ | rfl | (refine congrArg (fun z => some (AV.v (Value.int .i64 z))) ?_; omega))) rfl ⟨⟨by simp [hset', hls, y0, q0], by (first | omega | (dsimp only; omega))⟩, ⟨by simp [hset', hls, q0, q1, y0, y1, y2, y3, splice], by (first | omega | (dsimp only; omega))⟩, ⟨by simp [hset', hls, q0, q1, y0, y1, y2, y3], by (first | omega | (dsimp only; omega))⟩, True.intro⟩ (Nat.le_refl _)
    rintro ⟨p, z, Z⟩ ⟨hp2, hz1, hzY, hzZ, hYZ⟩
    dsimp only at hp2 hz1 hzY hzZ hYZ ⊢
    have a0 : (z == 0) = false := beq_ne (by omega)
    have a1 : (0 == z) = false := beq_ne (by omega)
    have a2 : (z == Y) = false := beq_ne (by omega)
    have a3 : (Y == z) = false := beq_ne (by omega)
    have b0 : (Z == 0) = false := beq_ne (by omega)
    have b1 : (0 == Z) = false := beq_ne (by omega)
    have b2 : (Z == Y) = false := beq_ne (by omega)
    have b3 : (Y == Z) = false := beq_ne (by omega)
    have b4 : (Z == z) = false := beq_ne (by omega)
    have b5 : (z == Z) = false := beq_ne (by omega)
    have hDp := hDl p hp2
    by_cases hp3 : p < N
    · have hd2 : decide ((p : Int) < N) = true := decide_eq_true (by omega)
      have ks := c_sample t (p : Nat) (by unfold Len; omega) (by omega) (by omega)
      have hDs : D (p + 1) = bif badAt t (meds ts N) limit p then stepD t.nm (p : Nat) (D p) else D p := by rw [hD, hD]; rfl
      rw [badAt_eq _ _ _ _ hlim.1] at hDs
      have hml2 : (p : Int) < (meds ts N).length := by omega
      have hmb := medAt_bound hT (p : Nat)
      have hgm := gi_meds (ts := ts) (n := N) (p := p) hp3
      have hsb := hsm (p : Nat)
      cases hc : hasAt t (p : Nat)
      · rw [hc] at ks hDs
        rw [Bool.false_and, cond_false] at hDs
        repeat' first
         | refine v_seq ?_ | refine v_block ?_ | refine v_ret ?_ | refine v_skip ?_ | (refine v_exit ?_; repeat' first | refine xB_eq ?_ | refine xB_ne rfl ?_)
         | ((first | refine rgA fun K hK => ?_ | refine rgB rfl fun K hK => ?_ | refine rgC rfl fun K hK => ?_); simp only [go_sem,simprocAttr,hd2,n0,hls,hset_at,hset_hset,q0,q1,y0,y1,a0,a1,a2,a3,b0,b1,b2,b3,b4,b5])
         | (simp (disch := first | omega | rfl | (simp only [lnn]; omega)) only [spl])
         | (refine hK _ ?_; clear hK K)
         | (refine gdB_intro (fun h => ?_) (fun h => ?_) <;> simp only [go_sem,simprocAttr,h,hd2,n0,hls,hset_at,hset_hset,q0,q1,y0,y1,a0,a1,a2,a3,b0,b1,b2,b3,b4,b5] <;> (have h' := h; try simp only [bl] at h'))
         | (refine v_cond rfl (fun h => ?_) (fun h => ?_) <;> first | (exact Bool.noConfusion h) | (have h' := h; try simp only [bl] at h'))
         | (refine r_ret ?_; simp only [resL, resA, Tryz.f55, lk_cons', lk_nil', Nat.reduceBEq]; first | exact ⟨rfl, Sb.nil _, rfl⟩ | refine ⟨rfl, sbt ?_, rfl⟩ | refine ⟨rfl, Sb.of_eq ?_, rfl⟩)
         | (refine And.intro (by first | exact True.intro | omega | rfl | exact Nat.le_of_ble_eq_true rfl | (simp only [lnn]; omega) | exact List.forall_mem_nil _ | (refine List.forall_mem_cons.2 ⟨⟨_, rfl⟩, ?_⟩; repeat' first | exact List.forall_mem_nil _ | refine List.forall_mem_cons.2 ⟨⟨_, rfl⟩, ?_⟩)) ?_)
         | ((first | refine call_pure' (ks) rfl ?_); simp only [go_sem,simprocAttr,hd2,n0,hls,hset_at,hset_hset,q0,q1,y0,y1,a0,a1,a2,a3,b0,b1,b2,b3,b4,b5])
         | (simp only [go_sem,simprocAttr,hls,hset_at,hset_hset,q0,q1,y0,y1,a0,a1,a2,a3,b0,b1,b2,b3,b4,b5])
         | fail
        refine ⟨(p + 1, z, Z), ?_, ⟨by (first | omega | (dsimp only; omega)), by (first | omega | (dsimp only; omega)), by (first | omega | (dsimp only; omega)), by (first | omega | (dsimp only; omega)), by (first | omega | (dsimp only; omega))⟩, by (first | omega | (dsimp only; omega))⟩
        dsimp only
        rw [hDs]
        exact ent_rows [(0, tcs (byN ts)), (Y, [AV.v (Value.string t.nm), iv t.lag, isl t.xs]), (z, dcs (D p).reverse)] (by (repeat' first | exact trivial | refine ⟨?_, ?_⟩ | rfl | (refine congrArg (fun z => some (AV.v (Value.int .i64 z))) ?_; omega))) rfl ⟨⟨by simp [hset', hls, y0, y1, a0, a1, a2, a3, b0, b1, b2, b3], by (first | omega | (dsimp only; omega))⟩, ⟨by simp [hset', hls, y0, y1, a0, a1, a2, a3, b0, b1, b2, b3, splice], by (first | omega | (dsimp only; omega))⟩, ⟨by simp [hset', hls, y0, y1, a0, a1, a2, a3, b0, b1, b2, b3], by (first | omega | (dsimp only; omega))⟩, True.intro⟩ (Nat.le_refl _)
      · rw [hc] at ks hDs
        rw [Bool.true_and] at hDs
        have kz := c_size (smp t (p : Nat) - gi (meds ts N) (p : Nat)) (by rw [hgm]; omega)
        rw [hgm] at hDs kz
        cases hb : decide (((smp t (p : Nat) - medAt ts (p : Nat)).natAbs : Int) ≤ limit)
        rotate_left
        · rw [hb, Bool.not_true, cond_false] at hDs
          repeat' first
           | refine v_seq ?_ | refine v_block ?_ | refine v_ret ?_ | refine v_skip ?_ | (refine v_exit ?_; repeat' first | refine xB_eq ?_ | refine xB_ne rfl ?_)
           | ((first | refine rgA fun K hK => ?_ | refine rgB rfl fun K hK => ?_ | refine rgC rfl fun K hK => ?_); simp only [go_sem,simprocAttr,hd2,n0,hls,hset_at,hset_hset,q0,q1,y0,y1,a0,a1,a2,a3,b0,b1,b2,b3,b4,b5,hgm,hb])
           | (simp (disch := first | omega | rfl | (simp only [lnn]; omega)) only [spl])
           | (refine hK _ ?_; clear hK K)
           | (refine gdB_intro (fun h => ?_) (fun h => ?_) <;> simp only [go_sem,simprocAttr,h,hd2,n0,hls,hset_at,hset_hset,q0,q1,y0,y1,a0,a1,a2,a3,b0,b1,b2,b3,b4,b5,hgm,hb] <;> (have h' := h; try simp only [bl] at h'))
           | (refine v_cond rfl (fun h => ?_) (fun h => ?_) <;> first | (exact Bool.noConfusion h) | (have h' := h; try simp only [bl] at h'))
           | (refine r_ret ?_; simp only [resL, resA, Tryz.f55, lk_cons', lk_nil', Nat.reduceBEq]; first | exact ⟨rfl, Sb.nil _, rfl⟩ | refine ⟨rfl, sbt ?_, rfl⟩ | refine ⟨rfl, Sb.of_eq ?_, rfl⟩)
           | (refine And.intro (by first | exact True.intro | omega | rfl | exact Nat.le_of_ble_eq_true rfl | (simp only [lnn]; omega) | exact List.forall_mem_nil _ | (refine List.forall_mem_cons.2 ⟨⟨_, rfl⟩, ?_⟩; repeat' first | exact List.forall_mem_nil _ | refine List.forall_mem_cons.2 ⟨⟨_, rfl⟩, ?_⟩)) ?_)
           | ((first | refine call_pure' (ks) rfl ?_ | refine call_pure' (kz) rfl ?_); simp only [go_sem,simprocAttr,hd2,n0,hls,hset_at,hset_hset,q0,q1,y0,y1,a0,a1,a2,a3,b0,b1,b2,b3,b4,b5,hgm,hb])
           | (simp only [go_sem,simprocAttr,hls,hset_at,hset_hset,q0,q1,y0,y1,a0,a1,a2,a3,b0,b1,b2,b3,b4,b5,hgm,hb])
           | fail
          all_goals try (exfalso; omega)
          refine ⟨(p + 1, z, Z), ?_, ⟨by (first | omega | (dsimp only; omega)), by (first | omega | (dsimp only; omega)), by (first | omega | (dsimp only; omega)), by (first | omega | (dsimp only; omega)), by (first | omega | (dsimp only; omega))⟩, by (first | omega | (dsimp only; omega))⟩
          dsimp only
          rw [hDs]
          exact ent_rows [(0, tcs (byN ts)), (Y, [AV.v (Value.string t.nm), iv t.lag, isl t.xs]), (z, dcs (D p).reverse)] (by (repeat' first | exact trivial | refine ⟨?_, ?_⟩ | rfl | (refine congrArg (fun z => some (AV.v (Value.int .i64 z))) ?_; omega))) rfl ⟨⟨by simp [hset', hls, y0, y1, a0, a1, a2, a3, b0, b1, b2, b3], by (first | omega | (dsimp only; omega))⟩, ⟨by simp [hset', hls, y0, y1, a0, a1, a2, a3, b0, b1, b2, b3, splice], by (first | omega | (dsimp only; omega))⟩, ⟨by simp [hset', hls, y0, y1, a0, a1, a2, a3, b0, b1, b2, b3], by (first | omega | (dsimp only; omega))⟩, True.intro⟩ (Nat.le_refl _)
        · rw [hb, Bool.not_false, cond_true] at hDs
          cases hDD : D p with
          | nil =>
            rw [hDD] at hDs
            rw [show stepD t.nm (p : Nat) [] = [⟨t.nm, (p : Nat), (p : Nat)⟩] from rfl] at hDs
            rw [show dcs ([] : List Dg).reverse = [] from rfl, show ([] : List Dg).length = 0 from rfl]
            have on3 : ∀ l : List AV, oneL [] = true := fun _ => rfl
            repeat' first
             | refine v_seq ?_ | refine v_block ?_ | refine v_ret ?_ | refine v_skip ?_ | (refine v_exit ?_; repeat' first | refine xB_eq ?_ | refine xB_ne rfl ?_)
             | ((first | refine rgA fun K hK => ?_ | refine rgB rfl fun K hK => ?_ | refine rgC rfl fun K hK => ?_); simp only [go_sem,simprocAttr,hd2,n0,hls,hset_at,hset_hset,q0,q1,y0,y1,a0,a1,a2,a3,b0,b1,b2,b3,b4,b5,hgm,hb])
             | (simp (disch := first | omega | rfl | (simp only [lnn]; omega)) only [spl])
             | (refine hK _ ?_; clear hK K)
             | (refine gdB_intro (fun h => ?_) (fun h => ?_) <;> simp only [go_sem,simprocAttr,h,hd2,n0,hls,hset_at,hset_hset,q0,q1,y0,y1,a0,a1,a2,a3,b0,b1,b2,b3,b4,b5,hgm,hb] <;> (have h' := h; try simp only [bl] at h'))
             | (refine v_cond rfl (fun h => ?_) (fun h => ?_) <;> first | (exact Bool.noConfusion h) | (have h' := h; try simp only [bl] at h'))
             | (refine r_ret ?_; simp only [resL, resA, Tryz.f55, lk_cons', lk_nil', Nat.reduceBEq]; first | exact ⟨rfl, Sb.nil _, rfl⟩ | refine ⟨rfl, sbt ?_, rfl⟩ | refine ⟨rfl, Sb.of_eq ?_, rfl⟩)
             | (refine And.intro (by first | exact True.intro | omega | rfl | exact Nat.le_of_ble_eq_true rfl | (simp only [lnn]; omega) | exact List.forall_mem_nil _ | (refine List.forall_mem_cons.2 ⟨⟨_, rfl⟩, ?_⟩; repeat' first | exact List.forall_mem_nil _ | refine List.forall_mem_cons.2 ⟨⟨_, rfl⟩, ?_⟩)) ?_)
             | ((first | refine call_pure' (ks) rfl ?_ | refine call_pure' (kz) rfl ?_); simp only [go_sem,simprocAttr,hd2,n0,hls,hset_at,hset_hset,q0,q1,y0,y1,a0,a1,a2,a3,b0,b1,b2,b3,b4,b5,hgm,hb])
             | (simp only [go_sem,simprocAttr,hls,hset_at,hset_hset,q0,q1,y0,y1,a0,a1,a2,a3,b0,b1,b2,b3,b4,b5,hgm,hb])
             | fail
            all_goals try (exfalso; omega)
            refine ⟨(p + 1, Z, Z + 1), ?_, ⟨by (first | omega | (dsimp only; omega)), by (first | omega | (dsimp only; omega)), by (first | omega | (dsimp only; omega)), by (first | omega | (dsimp only; omega)), by (first | omega | (dsimp only; omega))⟩, by (first | omega | (dsimp only; omega))⟩
            dsimp only
            rw [hDs]
            exact ent_rows [(0, tcs (byN ts)), (Y, [AV.v (Value.string t.nm), iv t.lag, isl t.xs]), (Z, [AV.v (Value.string t.nm), iv p, iv p])] (by (repeat' first | exact trivial | refine ⟨?_, ?_⟩ | rfl | (refine congrArg (fun z => some (AV.v (Value.int .i64 z))) ?_; omega))) rfl ⟨⟨by simp [hset', hls, y0, y1, a0, a1, a2, a3, b0, b1, b2, b3], by (first | omega | (dsimp only; omega))⟩, ⟨by simp [hset', hls, y0, y1, a0, a1, a2, a3, b0, b1, b2, b3, splice], by (first | omega | (dsimp only; omega))⟩, ⟨by simp [hset', hls, y0, y1, a0, a1, a2, a3, b0, b1, b2, b3, splice], by (first | omega | (dsimp only; omega))⟩, True.intro⟩ (Nat.le_refl _)
          | cons d R' =>
            rw [hDD] at hDs hDp
            have hrev : dcs (d :: R').reverse = dcs R'.reverse ++ [AV.v (Value.string d.nm), iv d.lo, iv d.hi] := by simp [dcs, Dg.cells]
            have hXl : (dcs R'.reverse).length = R'.length * 3 := by rw [dcs_len, List.length_reverse]
            have hX1 := dcs_one R'.reverse
            rw [hrev, List.length_cons]
            rw [List.length_cons] at hDp
            obtain ⟨m, hm⟩ : ∃ m, R'.length = m := ⟨_, rfl⟩
            have hst1 : stepD t.nm (p : Nat) (d :: R') = bif nmEq d.nm t.nm && d.hi == (p : Int) - 1 then ⟨d.nm, d.lo, (p : Nat)⟩ :: R' else ⟨t.nm, (p : Nat), (p : Nat)⟩ :: d :: R' := rfl
            rw [hst1] at hDs
            have hrev1 : dcs (⟨d.nm, d.lo, (p : Nat)⟩ :: R').reverse = dcs R'.reverse ++ [AV.v (Value.string d.nm), iv d.lo, iv (p : Nat)] := by simp [dcs, Dg.cells]
            have hrev2 : dcs (⟨t.nm, (p : Nat), (p : Nat)⟩ :: d :: R').reverse = dcs R'.reverse ++ [AV.v (Value.string d.nm), iv d.lo, iv d.hi] ++ [AV.v (Value.string t.nm), iv (p : Nat), iv (p : Nat)] := by simp [dcs, Dg.cells]
            rw [hm] at hXl hDp ⊢
            generalize dcs R'.reverse = X at *
            have hk : (((m + 1 : Nat) : Int) - 1).toNat = m := by omega
            have g0 : (X ++ [AV.v (Value.string d.nm), iv d.lo, iv d.hi])[(((m + 1 : Nat) : Int) - 1).toNat * 3]? = some (AV.v (Value.string d.nm)) := by
              rw [hk, List.getElem?_append_right (by omega), hXl, Nat.sub_self]; rfl
            have g2 : (X ++ [AV.v (Value.string d.nm), iv d.lo, iv d.hi])[(((m + 1 : Nat) : Int) - 1).toNat * 3 + 2]? = some (iv d.hi) := by
              rw [hk, List.getElem?_append_right (by omega), hXl, show m * 3 + 2 - m * 3 = 2 by omega]; rfl
            have g2' : (X ++ [AV.v (Value.string d.nm), iv d.lo, iv d.hi])[(((m + 1 : Nat) : Int) - 1).toNat * 3 + 1 + 1]? = some (iv d.hi) := g2
            have sp : splice (X ++ [AV.v (Value.string d.nm), iv d.lo, iv d.hi]) ((((m + 1 : Nat) : Int) - 1).toNat * 3 + 2) [iv (p : Nat)] = X ++ [AV.v (Value.string d.nm), iv d.lo, iv (p : Nat)] := by
              rw [hk]
              unfold splice
              rw [← hXl, List.take_append, List.take_of_length_le (by omega), List.drop_append, List.drop_of_length_le (by simp; omega)]
              simp
              try omega
            have sp' : splice (X ++ [AV.v (Value.string d.nm), iv d.lo, iv d.hi]) ((((m + 1 : Nat) : Int) - 1).toNat * 3 + 1 + 1) [iv (p : Nat)] = X ++ [AV.v (Value.string d.nm), iv d.lo, iv (p : Nat)] := sp
            have hXlen : (X ++ [AV.v (Value.string d.nm), iv d.lo, iv d.hi]).length = (m + 1) * 3 := by rw [List.length_append, hXl]; simp; omega
            have hone : oneL (X ++ [AV.v (Value.string d.nm), iv d.lo, iv d.hi]) = true := by
              unfold oneL at hX1 ⊢
              rw [List.all_append, hX1]; rfl
            have htk : List.take ((m + 1) * 3) (X ++ [AV.v (Value.string d.nm), iv d.lo, iv d.hi]) = X ++ [AV.v (Value.string d.nm), iv d.lo, iv d.hi] := List.take_of_length_le (by omega)
            have hq : (d.nm.toList == t.nm.toList) = nmEq d.nm t.nm := rfl
            generalize hE : X ++ [AV.v (Value.string d.nm), iv d.lo, iv d.hi] = E at *
            cases hnq : nmEq d.nm t.nm
            · rw [hnq] at hq hDs
              rw [Bool.false_and, cond_false] at hDs
              repeat' first
               | refine v_seq ?_ | refine v_block ?_ | refine v_ret ?_ | refine v_skip ?_ | (refine v_exit ?_; repeat' first | refine xB_eq ?_ | refine xB_ne rfl ?_)
               | ((first | refine rgA fun K hK => ?_ | refine rgB rfl fun K hK => ?_ | refine rgC rfl fun K hK => ?_); simp only [go_sem,simprocAttr,hd2,n0,hls,hset_at,hset_hset,q0,q1,y0,y1,a0,a1,a2,a3,b0,b1,b2,b3,b4,b5,hgm,hb,hq,g0,g2,g2',sp,sp',hXlen,hone,htk])
               | (simp (disch := first | omega | rfl | (simp only [lnn]; omega)) only [spl])
               | (refine hK _ ?_; clear hK K)
               | (refine gdB_intro (fun h => ?_) (fun h => ?_) <;> simp only [go_sem,simprocAttr,h,hd2,n0,hls,hset_at,hset_hset,q0,q1,y0,y1,a0,a1,a2,a3,b0,b1,b2,b3,b4,b5,hgm,hb,hq,g0,g2,g2',sp,sp',hXlen,hone,htk] <;> (have h' := h; try simp only [bl] at h'))
               | (refine v_cond rfl (fun h => ?_) (fun h => ?_) <;> first | (exact Bool.noConfusion h) | (have h' := h; try simp only [bl] at h'))
               | (refine r_ret ?_; simp only [resL, resA, Tryz.f55, lk_cons', lk_nil', Nat.reduceBEq]; first | exact ⟨rfl, Sb.nil _, rfl⟩ | refine ⟨rfl, sbt ?_, rfl⟩ | refine ⟨rfl, Sb.of_eq ?_, rfl⟩)
               | (refine And.intro (by first | exact True.intro | omega | rfl | exact Nat.le_of_ble_eq_true rfl | (simp only [lnn]; omega) | exact List.forall_mem_nil _ | (refine List.forall_mem_cons.2 ⟨⟨_, rfl⟩, ?_⟩; repeat' first | exact List.forall_mem_nil _ | refine List.forall_mem_cons.2 ⟨⟨_, rfl⟩, ?_⟩)) ?_)
               | ((first | refine call_pure' (ks) rfl ?_ | refine call_pure' (kz) rfl ?_); simp only [go_sem,simprocAttr,hd2,n0,hls,hset_at,hset_hset,q0,q1,y0,y1,a0,a1,a2,a3,b0,b1,b2,b3,b4,b5,hgm,hb,hq,g0,g2,g2',sp,sp',hXlen,hone,htk])
               | (simp only [go_sem,simprocAttr,hls,hset_at,hset_hset,q0,q1,y0,y1,a0,a1,a2,a3,b0,b1,b2,b3,b4,b5,hgm,hb,hq,g0,g2,g2',sp,sp',hXlen,hone,htk])
               | (simp only [htk])
               | fail
              all_goals try (exfalso; omega)
              refine ⟨(p + 1, Z, Z + 1), ?_, ⟨by (first | omega | (dsimp only; omega)), by (first | omega | (dsimp only; omega)), by (first | omega | (dsimp only; omega)), by (first | omega | (dsimp only; omega)), by (first | omega | (dsimp only; omega))⟩, by (first | omega | (dsimp only; omega))⟩
              dsimp only
              rw [hDs, hrev2, List.length_cons, List.length_cons, hm]
              exact ent_rows [(0, tcs (byN ts)), (Y, [AV.v (Value.string t.nm), iv t.lag, isl t.xs]), (Z, E ++ [AV.v (Value.string t.nm), iv p, iv p])] (by (repeat' first | exact trivial | refine ⟨?_, ?_⟩ | rfl | (refine congrArg (fun z => some (AV.v (Value.int .i64 z))) ?_; omega))) rfl ⟨⟨by simp [hset', hls, y0, y1, a0, a1, a2, a3, b0, b1, b2, b3], by (first | omega | (dsimp only; omega))⟩, ⟨by simp [hset', hls, y0, y1, a0, a1, a2, a3, b0, b1, b2, b3, splice], by (first | omega | (dsimp only; omega))⟩, ⟨by simp [hset', hls, y0, y1, a0, a1, a2, a3, b0, b1, b2, b3, htk, splice], by (first | omega | (dsimp only; omega))⟩, True.intro⟩ (Nat.le_refl _)
            · rw [hnq] at hq hDs
              rw [Bool.true_and] at hDs
              cases hhi : d.hi == (p : Int) - 1
              · rw [hhi, cond_false] at hDs
                have hhi2 : d.hi ≠ (p : Int) - 1 := by simpa using hhi
                repeat' first
                 | refine v_seq ?_ | refine v_block ?_ | refine v_ret ?_ | refine v_skip ?_ | (refine v_exit ?_; repeat' first | refine xB_eq ?_ | refine xB_ne rfl ?_)
                 | ((first | refine rgA fun K hK => ?_ | refine rgB rfl fun K hK => ?_ | refine rgC rfl fun K hK => ?_); simp only [go_sem,simprocAttr,hd2,n0,hls,hset_at,hset_hset,q0,q1,y0,y1,a0,a1,a2,a3,b0,b1,b2,b3,b4,b5,hgm,hb,hq,hhi,g0,g2,g2',sp,sp',hXlen,hone,htk])
                 | (simp (disch := first | omega | rfl | (simp only [lnn]; omega)) only [spl])
                 | (refine hK _ ?_; clear hK K)
                 | (refine gdB_intro (fun h => ?_) (fun h => ?_) <;> simp only [go_sem,simprocAttr,h,hd2,n0,hls,hset_at,hset_hset,q0,q1,y0,y1,a0,a1,a2,a3,b0,b1,b2,b3,b4,b5,hgm,hb,hq,hhi,g0,g2,g2',sp,sp',hXlen,hone,htk] <;> (have h' := h; try simp only [bl] at h'))
                 | (refine v_cond rfl (fun h => ?_) (fun h => ?_) <;> first | (exact Bool.noConfusion h) | (have h' := h; try simp only [bl] at h'))
                 | (refine r_ret ?_; simp only [resL, resA, Tryz.f55, lk_cons', lk_nil', Nat.reduceBEq]; first | exact ⟨rfl, Sb.nil _, rfl⟩ | refine ⟨rfl, sbt ?_, rfl⟩ | refine ⟨rfl, Sb.of_eq ?_, rfl⟩)
                 | (refine And.intro (by first | exact True.intro | omega | rfl | exact Nat.le_of_ble_eq_true rfl | (simp only [lnn]; omega) | exact List.forall_mem_nil _ | (refine List.forall_mem_cons.2 ⟨⟨_, rfl⟩, ?_⟩; repeat' first | exact List.forall_mem_nil _ | refine List.forall_mem_cons.2 ⟨⟨_, rfl⟩, ?_⟩)) ?_)
                 | ((first | refine call_pure' (ks) rfl ?_ | refine call_pure' (kz) rfl ?_); simp only [go_sem,simprocAttr,hd2,n0,hls,hset_at,hset_hset,q0,q1,y0,y1,a0,a1,a2,a3,b0,b1,b2,b3,b4,b5,hgm,hb,hq,hhi,g0,g2,g2',sp,sp',hXlen,hone,htk])
                 | (simp only [go_sem,simprocAttr,hls,hset_at,hset_hset,q0,q1,y0,y1,a0,a1,a2,a3,b0,b1,b2,b3,b4,b5,hgm,hb,hq,hhi,g0,g2,g2',sp,sp',hXlen,hone,htk])
                 | (simp only [htk])
                 | fail
                all_goals try (exfalso; omega)
                refine ⟨(p + 1, Z, Z + 1), ?_, ⟨by (first | omega | (dsimp only; omega)), by (first | omega | (dsimp only; omega)), by (first | omega | (dsimp only; omega)), by (first | omega | (dsimp only; omega)), by (first | omega | (dsimp only; omega))⟩, by (first | omega | (dsimp only; omega))⟩
                dsimp only
                rw [hDs, hrev2, List.length_cons, List.length_cons, hm]
                exact ent_rows [(0, tcs (byN ts)), (Y, [AV.v (Value.string t.nm), iv t.lag, isl t.xs]), (Z, E ++ [AV.v (Value.string t.nm), iv p, iv p])] (by (repeat' first | exact trivial | refine ⟨?_, ?_⟩ | rfl | (refine congrArg (fun z => some (AV.v (Value.int .i64 z))) ?_; omega))) rfl ⟨⟨by simp [hset', hls, y0, y1, a0, a1, a2, a3, b0, b1, b2, b3], by (first | omega | (dsimp only; omega))⟩, ⟨by simp [hset', hls, y0, y1, a0, a1, a2, a3, b0, b1, b2, b3, splice], by (first | omega | (dsimp only; omega))⟩, ⟨by simp [hset', hls, y0, y1, a0, a1, a2, a3, b0, b1, b2, b3, htk, splice], by (first | omega | (dsimp only; omega))⟩, True.intro⟩ (Nat.le_refl _)
              · rw [hhi, cond_true] at hDs
                have hhi2 : d.hi = (p : Int) - 1 := by simpa using hhi
                repeat' first
                 | refine v_seq ?_ | refine v_block ?_ | refine v_ret ?_ | refine v_skip ?_ | (refine v_exit ?_; repeat' first | refine xB_eq ?_ | refine xB_ne rfl ?_)
                 | ((first | refine rgA fun K hK => ?_ | refine rgB rfl fun K hK => ?_ | refine rgC rfl fun K hK => ?_); simp only [go_sem,simprocAttr,hd2,n0,hls,hset_at,hset_hset,q0,q1,y0,y1,a0,a1,a2,a3,b0,b1,b2,b3,b4,b5,hgm,hb,hq,hhi,g0,g2,g2',sp,sp',hXlen,hone,htk])
                 | (simp (disch := first | omega | rfl | (simp only [lnn]; omega)) only [spl])
                 | (refine hK _ ?_; clear hK K)
                 | (refine gdB_intro (fun h => ?_) (fun h => ?_) <;> simp only [go_sem,simprocAttr,h,hd2,n0,hls,hset_at,hset_hset,q0,q1,y0,y1,a0,a1,a2,a3,b0,b1,b2,b3,b4,b5,hgm,hb,hq,hhi,g0,g2,g2',sp,sp',hXlen,hone,htk] <;> (have h' := h; try simp only [bl] at h'))
                 | (refine v_cond rfl (fun h => ?_) (fun h => ?_) <;> first | (exact Bool.noConfusion h) | (have h' := h; try simp only [bl] at h'))
                 | (refine r_ret ?_; simp only [resL, resA, Tryz.f55, lk_cons', lk_nil', Nat.reduceBEq]; first | exact ⟨rfl, Sb.nil _, rfl⟩ | refine ⟨rfl, sbt ?_, rfl⟩ | refine ⟨rfl, Sb.of_eq ?_, rfl⟩)
                 | (refine And.intro (by first | exact True.intro | omega | rfl | exact Nat.le_of_ble_eq_true rfl | (simp only [lnn]; omega) | exact List.forall_mem_nil _ | (refine List.forall_mem_cons.2 ⟨⟨_, rfl⟩, ?_⟩; repeat' first | exact List.forall_mem_nil _ | refine List.forall_mem_cons.2 ⟨⟨_, rfl⟩, ?_⟩)) ?_)
                 | ((first | refine call_pure' (ks) rfl ?_ | refine call_pure' (kz) rfl ?_); simp only [go_sem,simprocAttr,hd2,n0,hls,hset_at,hset_hset,q0,q1,y0,y1,a0,a1,a2,a3,b0,b1,b2,b3,b4,b5,hgm,hb,hq,hhi,g0,g2,g2',sp,sp',hXlen,hone,htk])
                 | (simp only [go_sem,simprocAttr,hls,hset_at,hset_hset,q0,q1,y0,y1,a0,a1,a2,a3,b0,b1,b2,b3,b4,b5,hgm,hb,hq,hhi,g0,g2,g2',sp,sp',hXlen,hone,htk])
                 | (simp only [htk])
                 | fail
                all_goals try (exfalso; omega)
                refine ⟨(p + 1, z, Z), ?_, ⟨by (first | omega | (dsimp only; omega)), by (first | omega | (dsimp only; omega)), by (first | omega | (dsimp only; omega)), by (first | omega | (dsimp only; omega)), by (first | omega | (dsimp only; omega))⟩, by (first | omega | (dsimp only; omega))⟩
                dsimp only
                rw [hDs, hrev1, List.length_cons, hm]
                exact ent_rows [(0, tcs (byN ts)), (Y, [AV.v (Value.string t.nm), iv t.lag, isl t.xs]), (z, X ++ [AV.v (Value.string d.nm), iv d.lo, iv p])] (by (repeat' first | exact trivial | refine ⟨?_, ?_⟩ | rfl | (refine congrArg (fun z => some (AV.v (Value.int .i64 z))) ?_; omega))) rfl ⟨⟨by simp [hset', hls, y0, y1, a0, a1, a2, a3, b0, b1, b2, b3], by (first | omega | (dsimp only; omega))⟩, ⟨by simp [hset', hls, y0, y1, a0, a1, a2, a3, b0, b1, b2, b3, splice], by (first | omega | (dsimp only; omega))⟩, ⟨by simp [hset', hls, y0, y1, a0, a1, a2, a3, b0, b1, b2, b3, sp, sp'], by (first | omega | (dsimp only; omega))⟩, True.intro⟩ (Nat.le_refl _)
    · obtain rfl : p = N := by omega
      have hd2 : decide ((p : Int) < p) = false := decide_eq_false (by omega)
      repeat' first
       | refine v_seq ?_ | refine v_block ?_ | refine v_ret ?_ | refine v_skip ?_ | (refine v_exit ?_; repeat' first | refine xB_eq ?_ | refine xB_ne rfl ?_)
       | ((first | refine rgA fun K hK => ?_ | refine rgB rfl fun K hK => ?_ | refine rgC rfl fun K hK => ?_); simp only [go_sem,simprocAttr,hd2,hls])
       | (simp (disch := first | omega | rfl | (simp only [lnn]; omega)) only [spl])
       | (refine hK _ ?_; clear hK K)
       | (refine gdB_intro (fun h => ?_) (fun h => ?_) <;> simp only [go_sem,simprocAttr,h,hd2,hls] <;> (have h' := h; try simp only [bl] at h'))
       | (refine v_cond rfl (fun h => ?_) (fun h => ?_) <;> first | (exact Bool.noConfusion h) | (have h' := h; try simp only [bl] at h'))
       | (refine r_ret ?_; simp only [resL, resA, Tryz.f55, lk_cons', lk_nil', Nat.reduceBEq]; first | exact ⟨rfl, Sb.nil _, rfl⟩ | refine ⟨rfl, sbt ?_, rfl⟩ | refine ⟨rfl, Sb.of_eq ?_, rfl⟩)
       | (refine And.intro (by first | exact True.intro | omega | rfl | exact Nat.le_of_ble_eq_true rfl | (simp only [lnn]; omega) | exact List.forall_mem_nil _ | (refine List.forall_mem_cons.2 ⟨⟨_, rfl⟩, ?_⟩; repeat' first | exact List.forall_mem_nil _ | refine List.forall_mem_cons.2 ⟨⟨_, rfl⟩, ?_⟩)) ?_)
       | fail
      refine ⟨(i + 1, z, Z), ?_, ⟨by (first | omega | (dsimp only; omega)), by (first | omega | (dsimp only; omega)), by (first | omega | (dsimp only; omega))⟩, by (first | omega | (dsimp only; omega))⟩
      dsimp only
      rw [hRs, ← hD]
      exact ent_rows [(0, tcs (byN ts)), (z, dcs (D p).reverse)] (by (repeat' first | exact trivial | refine ⟨?_, ?_⟩ | rfl | (refine congrArg (fun z => some (AV.v (Value.int .i64 z))) ?_; omega))) rfl ⟨⟨by simp [hset', hls, y0, y1, a0, a1, a2, a3], by (first | omega | (dsimp only; omega))⟩, ⟨by simp [hset', hls, y0, y1, a0, a1, a2, a3], by (first | omega | (dsimp only; omega))⟩, True.intro⟩ (Nat.le_refl _)
  · obtain rfl : i = ts.length := by omega
    have hd : decide ((ts.length : Int) < ts.length) = false := decide_eq_false (by omega)
    have hRe : R ts.length = dmgR (meds ts N) limit N (byN ts) := by rw [hR, List.take_of_length_le (by omega)]
    have hlen : (R ts.length).length = (dmgs ts limit N).length := by unfold dmgs; rw [hRe, List.length_reverse]
    have hrow : dcs (R ts.length).reverse = dcs (dmgs ts limit N) := by unfold dmgs; rw [hRe]
    rw [hlen, hrow]
    have hdl := dcs_len (dmgs ts limit N)
    repeat' first
     | refine v_seq ?_ | refine v_block ?_ | refine v_ret ?_ | refine v_skip ?_ | (refine v_exit ?_; repeat' first | refine xB_eq ?_ | refine xB_ne rfl ?_)
     | ((first | refine rgA fun K hK => ?_ | refine rgB rfl fun K hK => ?_ | refine rgC rfl fun K hK => ?_); simp only [go_sem,simprocAttr,hd,hls])
     | (simp (disch := first | omega | rfl | (simp only [lnn]; omega)) only [spl])
     | (refine hK _ ?_; clear hK K)
     | (refine gdB_intro (fun h => ?_) (fun h => ?_) <;> simp only [go_sem,simprocAttr,h,hd,hls] <;> (have h' := h; try simp only [bl] at h'))
     | (refine v_cond rfl (fun h => ?_) (fun h => ?_) <;> first | (exact Bool.noConfusion h) | (have h' := h; try simp only [bl] at h'))
     | (refine r_ret ?_; simp only [resL, resA, Tryz.f55, lk_cons', lk_nil', Nat.reduceBEq]; first | exact ⟨rfl, Sb.nil _, rfl⟩ | refine ⟨rfl, sbt ?_, rfl⟩ | refine ⟨rfl, Sb.of_eq ?_, rfl⟩)
     | (refine And.intro (by first | exact True.intro | omega | rfl | exact Nat.le_of_ble_eq_true rfl | (simp only [lnn]; omega) | exact List.forall_mem_nil _ | (refine List.forall_mem_cons.2 ⟨⟨_, rfl⟩, ?_⟩; repeat' first | exact List.forall_mem_nil _ | refine List.forall_mem_cons.2 ⟨⟨_, rfl⟩, ?_⟩)) ?_)
     | fail
    refine r_freeze r (c := dcs (dmgs ts limit N)) (by simp [hset', q0, q1]) (dcs_plain _) (r_ret ?_)
    have hle : 0 + (dmgs ts limit N).length * 3 ≤ (dcs (dmgs ts limit N)).length := by rw [hdl]; omega
    have htk1 : List.take ((dmgs ts limit N).length * 3) (List.drop 0 (dcs (dmgs ts limit N))) = dcs (dmgs ts limit N) := List.take_of_length_le (by rw [List.drop_zero, hdl]; exact Nat.le_refl _)
    simp only [resL, resA, Tryz.f55, fzF, lk_cons', lk_nil', Nat.reduceBEq, AV.fz, beq_self_eq_true, cond_true, if_pos hle, htk1]
    exact ⟨by simp [plainL, AV.plain, dcs_plain], Sb.refl _, by simp [plainL, AV.plain, dcs_plain]⟩
end Go.Proofs.YtabmhfmglhjmjaaGreatDoor

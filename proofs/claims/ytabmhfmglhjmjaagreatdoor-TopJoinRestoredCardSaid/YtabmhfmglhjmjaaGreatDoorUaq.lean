/- Parts of the proof, put together by a program. -/
import Derived.Lib.LaidTab
import Derived.Shelf.Strings.Split
import Derived.Shelf.Strings.Prefix
import Derived.Shelf.Strconv.Itoa3
import Derived.Shelf.Strconv.AtoiAll
import Derived.Shelf.Strconv.ErrVarAll
import Derived.Lib.AppendIntMem
import Derived.Test.YtabmhfmglhjmjaaGreatDoorProg
import Derived.KernelRfl
import Derived.Lib.AtoiTie
import Derived.Lib.ItoaNum
import Derived.Lib.Strings
import Derived.Lib.SplitLaws
import Derived.Test.YtabmhfmglhjmjaaGreatDoorUak
import Derived.Test.YtabmhfmglhjmjaaGreatDoorUan
import Derived.Test.YtabmhfmglhjmjaaGreatDoorUap
set_option maxRecDepth 100000
set_option maxHeartbeats 4000000
set_option linter.unusedSimpArgs false
set_option linter.unusedVariables false
set_option linter.unusedSectionVars false
namespace Go.Proofs.YtabmhfmglhjmjaaGreatDoor
open Go.Ab Go.RowKit
attribute [local instance] drS
structure Res (x : List Int) (ts : List Tf) (sd : Nat → Nat → Bool) : Prop where
  tf : TfOk ts
  l3 : ts.length = 3
  has : ∀ t p, t < 3 → p < x.length → hasAt (gt7 ts t) (p : Nat) = true
  eq : ∀ t p, t < 3 → p < x.length → sd t p = true → smp (gt7 ts t) (p : Nat) = gi x (p : Nat)
  ne : ∀ t p, t < 3 → p < x.length → sd t p = false → smp (gt7 ts t) (p : Nat) ≠ gi x (p : Nat)
  two : ∀ p, p < x.length → ∃ t, t < 3 ∧ ∀ s, s < 3 → s ≠ t → sd s p = true
variable {x : List Int} {ts : List Tf} {sd : Nat → Nat → Bool}
theorem Res.col (h : Res x ts sd) {p : Nat} (hp : p < x.length) : col ts (p : Nat) = [smp (gt7 ts 0) (p : Nat), smp (gt7 ts 1) (p : Nat), smp (gt7 ts 2) (p : Nat)] := by
  unfold Go.Proofs.YtabmhfmglhjmjaaGreatDoor.col
  rw [h.l3]
  simp only [colTo, h.has 0 p (by omega) hp, h.has 1 p (by omega) hp, h.has 2 p (by omega) hp, cond_true, List.nil_append, List.cons_append]
theorem Res.med (h : Res x ts sd) {p : Nat} (hp : p < x.length) : medAt ts (p : Nat) = gi x (p : Nat) := by
  unfold medAt
  rw [h.col hp]
  obtain ⟨t, ht, hs⟩ := h.two p hp
  have e := fun s (h3 : s < 3) (hn : s ≠ t) => h.eq s p h3 hp (hs s h3 hn)
  have h3 : t = 0 ∨ t = 1 ∨ t = 2 := by omega
  rcases h3 with rfl | rfl | rfl
  · rw [e 1 (by omega) (by omega), e 2 (by omega) (by omega)]
    exact (mid_perm (List.Perm.swap _ _ _)).trans (mid3 (gi x (p : Nat)) (smp (gt7 ts 0) (p : Nat)))
  · rw [e 0 (by omega) (by omega), e 2 (by omega) (by omega)]
    exact mid3 _ _
  · rw [e 0 (by omega) (by omega), e 1 (by omega) (by omega)]
    exact (mid_perm ((List.Perm.swap _ _ _).cons _)).trans (mid3 (gi x (p : Nat)) (smp (gt7 ts 2) (p : Nat)))
theorem Res.meds (h : Res x ts sd) : meds ts x.length = x := by
  refine gi_ext (meds_len _ _) fun j hj => ?_
  rw [meds_len] at hj
  rw [gi_meds hj, h.med hj]
theorem Res.holes (h : Res x ts sd) : holes ts x.length = false := holes_false.2 fun p hp => by unfold hole; rw [h.col hp]; rfl
theorem Res.bad (h : Res x ts sd) {t p : Nat} (ht : t < 3) (hp : p < x.length) : badAt (gt7 ts t) x 0 p = !sd t p := by
  unfold badAt
  rw [h.has t p ht hp, Bool.true_and]
  cases hs : sd t p
  · have := h.ne t p ht hp hs
    rw [within_false.2 (by omega)]
  · rw [h.eq t p ht hp hs, within_iff.2 (by omega)]
def inD (A : List Dg) (nm : ByteArray) (i : Int) : Nat → Bool
  | 0 => false
  | k + 1 => inD A nm i k || (nmEq (gd7 A k).nm nm && within i (gd7 A k).lo (gd7 A k).hi)
theorem inD_iff {A : List Dg} {nm : ByteArray} {i : Int} : ∀ {k : Nat}, inD A nm i k = true ↔ ∃ q, q < k ∧ (gd7 A q).nm = nm ∧ (gd7 A q).lo ≤ i ∧ i ≤ (gd7 A q).hi
  | 0 => ⟨fun h => (by cases h), fun ⟨q, hq, _⟩ => by omega⟩
  | k + 1 => by
    rw [inD, Bool.or_eq_true, inD_iff (k := k), Bool.and_eq_true, nmEq_iff, within_iff]
    refine ⟨fun h => ?_, fun ⟨q, hq, h0, h1, h2⟩ => ?_⟩
    · rcases h with ⟨q, hq, h1, h2⟩ | ⟨h1, h2⟩
      · exact ⟨q, by omega, h1, h2⟩
      · exact ⟨k, by omega, h1, h2⟩
    · by_cases e : q = k
      · subst e; exact .inr ⟨h0, h1, h2⟩
      · exact .inl ⟨q, by omega, h0, h1, h2⟩
theorem Res.inD (h : Res x ts sd) {t i : Nat} (ht : t < 3) (hi : i < x.length) : inD (dmgs ts 0 x.length) (gt7 ts t).nm (i : Nat) (dmgs ts 0 x.length).length = !sd t i := by
  rw [← h.bad ht hi, Bool.eq_iff_iff, inD_iff]
  have hm : gt7 ts t ∈ ts := gt7_mem (by rw [h.l3]; exact ht)
  have := dmgs_cov h.tf (limit := 0) hm hi
  rw [h.meds] at this
  rw [← this]
  constructor
  · rintro ⟨q, hq, h1⟩
    rw [gd7_eq hq] at h1
    exact ⟨_, List.getElem_mem hq, h1⟩
  · rintro ⟨d, hd, h1⟩
    obtain ⟨q, hq, e⟩ := List.getElem_of_mem hd
    refine ⟨q, hq, ?_⟩
    rw [gd7_eq hq, e]; exact h1
theorem Res.cnt (h : Res x ts sd) (hc : ∀ t, t < 3 → cntB (fun p => !sd t p) x.length ≤ 10) : (dmgs ts 0 x.length).length ≤ 30 := by
  refine Nat.le_trans (dmgs_cnt h.tf) ?_
  rw [h.meds]
  have h3 := h.l3
  obtain ⟨a, b, c, rfl⟩ : ∃ a b c, ts = [a, b, c] := by
    match ts, h3 with
    | [a, b, c], _ => exact ⟨a, b, c, rfl⟩
  have e : ∀ t, t < 3 → cntB (badAt (gt7 [a, b, c] t) x 0) x.length ≤ 10 := fun t ht => by
    rw [cntB_congr x.length fun i hi => h.bad ht hi]
    exact hc t ht
  have e0 := e 0 (by omega)
  have e1 := e 1 (by omega)
  have e2 := e 2 (by omega)
  change cntB (badAt a x 0) x.length ≤ 10 at e0
  change cntB (badAt b x 0) x.length ≤ 10 at e1
  change cntB (badAt c x 0) x.length ≤ 10 at e2
  simp only [List.map_cons, List.map_nil, List.sum_cons, List.sum_nil]
  omega
variable {K : Nat}
theorem Res.tk (h : Res x ts sd) (hK : x.length = K * 4) (h1 : 1 ≤ K) (h6 : K ≤ 6) : TkOk ts x.length 4 0 K 4 :=
  ⟨h.tf, by omega, rfl, by omega, by omega, h1, by omega, by rw [hK]; simp⟩
theorem Res.cov (h : Res x ts sd) (hK : x.length = K * 4) {k i : Nat} (hk : k < K) (hi : i < 3) : cov ts 4 k i = true :=
  cov_iff.2 fun q hq => h.has i _ hi (by omega)
theorem Res.dvn (h : Res x ts sd) (hK : x.length = K * 4) {k i : Nat} (hk : k < K) (hi : i < 3) : dvn ts 4 k i = sumTo (fun q => ((smp (gt7 ts i) ((k * 4 + q : Nat) : Int) - gi x ((k * 4 + q : Nat) : Int)).natAbs : Int)) 4 := by
  unfold Go.Proofs.YtabmhfmglhjmjaaGreatDoor.dvn dvTo
  rw [h.cov hK hk hi, cond_true]
  exact sumTo_ext7 fun q hq => by rw [h.med (p := k * 4 + q) (by omega)]
theorem Res.gap (h : Res x ts sd) (hK : x.length = K * 4) {k : Nat} (hk : k < K) : gap7 ts 4 k = false := by
  cases hg : gap7 ts 4 k
  · rfl
  · have := (gap7_iff ts 4 k).1 hg 0 (by rw [h.l3]; omega)
    unfold Go.Proofs.YtabmhfmglhjmjaaGreatDoor.dvn at this
    rw [h.cov hK hk (by omega), cond_true] at this
    have hb := dvTo_bound h.tf (i := 0) (by rw [h.l3]; omega) 4 k 4
    omega
theorem sumTo_zero {f : Nat → Int} (h0 : ∀ i, 0 ≤ f i) : ∀ n, sumTo f n = 0 → ∀ i, i < n → f i = 0
  | 0, _, i, hi => absurd hi (by omega)
  | n + 1, h, i, hi => by
    have hs : ∀ m, 0 ≤ sumTo f m := fun m => by
      induction m with
      | zero => exact Int.le_refl _
      | succ m ih => have := h0 m; show 0 ≤ sumTo f m + f m; omega
    have h1 := hs n
    have h2 := h0 n
    have h3 : sumTo f n + f n = 0 := h
    by_cases e : i = n
    · subst e; omega
    · exact sumTo_zero h0 n (by omega) i (by omega)
theorem sumTo_all0 {f : Nat → Int} : ∀ n, (∀ i, i < n → f i = 0) → sumTo f n = 0
  | 0, _ => rfl
  | n + 1, h => by
    show sumTo f n + f n = 0
    rw [h n (by omega), sumTo_all0 n fun i hi => h i (by omega)]; rfl
theorem chg0 (i j : Nat) : chg 0 i j = 0 := by unfold chg; cases i == j <;> rfl
theorem cost0 {dv : Nat → Nat → Int} {s : Nat → Nat} : ∀ K, (∀ k, k < K → dv k (s k) = 0) → costTo dv 0 s K = 0
  | 0, _ => rfl
  | k + 1, h => by
    show costTo dv 0 s k + dv k (s k) + (bif k == 0 then 0 else chg 0 (s (k - 1)) (s k)) = 0
    rw [cost0 k fun q hq => h q (by omega), h k (by omega), chg0]
    cases k == 0 <;> rfl
theorem cost0_inv {dv : Nat → Nat → Int} {s : Nat → Nat} : ∀ K, (∀ k, k < K → 0 ≤ dv k (s k)) → 0 ≤ costTo dv 0 s K ∧ (costTo dv 0 s K = 0 → ∀ k, k < K → dv k (s k) = 0)
  | 0, _ => ⟨Int.le_refl _, fun _ k hk => absurd hk (by omega)⟩
  | k + 1, h => by
    obtain ⟨h1, h2⟩ := cost0_inv k fun q hq => h q (by omega)
    have h3 := h k (by omega)
    have e : costTo dv 0 s (k + 1) = costTo dv 0 s k + dv k (s k) := by
      show costTo dv 0 s k + dv k (s k) + (bif k == 0 then 0 else chg 0 (s (k - 1)) (s k)) = _
      rw [chg0]
      cases k == 0 <;> exact Int.add_zero _
    rw [e]
    refine ⟨by omega, fun h4 q hq => ?_⟩
    by_cases eq : q = k
    · subst eq; omega
    · exact h2 (by omega) q (by omega)
theorem Res.best (h : Res x ts sd) (hK : x.length = K * 4) (h1 : 1 ≤ K) (h6 : K ≤ 6) (hw : ∀ k, k < K → ∃ t, t < 3 ∧ ∀ q, q < 4 → sd t (k * 4 + q) = true) :
    total7 (Go.Proofs.YtabmhfmglhjmjaaGreatDoor.dvn ts 4) 0 K ts.length = 0 ∧ ∀ k q, k < K → q < 4 → smp (gt7 ts (ch7 (Go.Proofs.YtabmhfmglhjmjaaGreatDoor.dvn ts 4) 0 K ts.length (fun i => (gt7 ts i).nm) k)) ((k * 4 + q : Nat) : Int) = gi x ((k * 4 + q : Nat) : Int) := by
  have hT := h.tk hK h1 h6
  have hd := tk_dp hT fun k hk => h.gap hK hk
  have hc := cost_total hd
  have hok := fun k hk => ch7_ok hd (k := k) hk
  have hnn : ∀ k, k < K → 0 ≤ Go.Proofs.YtabmhfmglhjmjaaGreatDoor.dvn ts 4 k (ch7 (Go.Proofs.YtabmhfmglhjmjaaGreatDoor.dvn ts 4) 0 K ts.length (fun i => (gt7 ts i).nm) k) := fun k hk => by
    have := hd.rng k (ch7 (Go.Proofs.YtabmhfmglhjmjaaGreatDoor.dvn ts 4) 0 K ts.length (fun i => (gt7 ts i).nm) k)
    have h2 := (hok k hk).2.1
    omega
  obtain ⟨c1, c2⟩ := cost0_inv K hnn
  rw [hc] at c1 c2
  have hz : total7 (Go.Proofs.YtabmhfmglhjmjaaGreatDoor.dvn ts 4) 0 K ts.length = 0 := by
    have hs : ∀ k, ∃ t, k < K → t < 3 ∧ ∀ q, q < 4 → sd t (k * 4 + q) = true := fun k => by
      by_cases e : k < K
      · obtain ⟨t, ht⟩ := hw k e
        exact ⟨t, fun _ => ht⟩
      · exact ⟨0, fun h => absurd h e⟩
    let s : Nat → Nat := fun k => (hs k).choose
    have hss : ∀ k, k < K → s k < 3 ∧ ∀ q, q < 4 → sd (s k) (k * 4 + q) = true := fun k hk => (hs k).choose_spec hk
    have hdz : ∀ k, k < K → Go.Proofs.YtabmhfmglhjmjaaGreatDoor.dvn ts 4 k (s k) = 0 := fun k hk => by
      obtain ⟨a, b⟩ := hss k hk
      rw [h.dvn hK hk a]
      exact sumTo_all0 4 fun q hq => by
        rw [h.eq (s k) (k * 4 + q) a (by omega) (b q hq), Int.sub_self]; rfl
    have := cost_least hd (s := s) fun k hk => ⟨by rw [h.l3]; exact (hss k hk).1, by rw [hdz k hk]; decide⟩
    rw [cost0 K hdz] at this
    omega
  refine ⟨hz, fun k q hk hq => ?_⟩
  have e := c2 hz k hk
  have hl := (hok k hk).1
  rw [h.l3] at hl
  rw [h.dvn hK hk (by rw [h.l3]; exact hl)] at e
  have := sumTo_zero (fun i => Int.natCast_nonneg _) 4 e q hq
  omega
theorem Res.joined (h : Res x ts sd) (hK : x.length = K * 4) (h1 : 1 ≤ K) (h6 : K ≤ 6) (hw : ∀ k, k < K → ∃ t, t < 3 ∧ ∀ q, q < 4 → sd t (k * 4 + q) = true) {L : List ByteArray}
    (hL : L = namA (Go.Proofs.YtabmhfmglhjmjaaGreatDoor.dvn ts 4) 0 K ts.length (fun i => (gt7 ts i).nm) K) :
    cErr ts 4 K L = 0 ∧ jnE x.length (plTo ts 4 (cIxs ts L K) K) (ts.map Tf.xs) = 0 ∧ jTo (plTo ts 4 (cIxs ts L K) K) (ts.map Tf.xs) x.length = x := by
  have hT := h.tk hK h1 h6
  have hg := fun k (hk : k < K) => h.gap hK hk
  obtain ⟨b1, b2⟩ := best_err hT hg
  rw [← hL] at b1 b2
  obtain ⟨j1, j2⟩ := jn_pl hT b1
  obtain ⟨_, hb⟩ := h.best hK h1 h6 hw
  refine ⟨b1, j1, gi_ext (jTo_len _ _ _) fun p hp => ?_⟩
  rw [jTo_len] at hp
  rw [jTo_at hp]
  obtain ⟨q1, _, q3⟩ := j2 p (by rw [Int.toNat_natCast]; exact hp)
  rw [q3, b2 _ q1]
  have := hb (p / 4) (p % 4) q1 (Nat.mod_lt _ (by omega))
  rwa [show p / 4 * 4 + p % 4 = p by omega] at this
theorem Res.rev {a b c : Tf} (h : Res x [a, b, c] sd) : Res x [c, b, a] fun t => sd (2 - t) := by
  have hp : ([c, b, a] : List Tf).Perm [a, b, c] := by
    refine ((List.Perm.swap b c [a]).trans ?_)
    refine ((List.Perm.swap a c []).cons b).trans ?_
    exact List.Perm.swap a b [c]
  have hg : ∀ t, t < 3 → gt7 [c, b, a] t = gt7 [a, b, c] (2 - t) := fun t ht => by
    have h3 : t = 0 ∨ t = 1 ∨ t = 2 := by omega
    rcases h3 with rfl | rfl | rfl <;> rfl
  refine ⟨h.tf.perm hp, rfl, fun t p ht hx => ?_, fun t p ht hx => ?_, fun t p ht hx => ?_, fun p hx => ?_⟩
  · rw [hg t ht]; exact h.has _ p (by omega) hx
  · rw [hg t ht]; exact h.eq _ p (by omega) hx
  · rw [hg t ht]; exact h.ne _ p (by omega) hx
  · obtain ⟨t, ht, hs⟩ := h.two p hx
    exact ⟨2 - t, by omega, fun s h3 hn => hs _ (by omega) (by omega)⟩
theorem shifted_one {a : List Int} {shift : Nat} (ha : ∃ i : Nat, i < a.length ∧ gi a (i : Nat) ≠ 0) {L : Int} (hs : (shift : Int) ≤ L) {best other : Int}
    (h : LagOk (corr a (shiftedL a shift 1 a.length)) L best other) : best = (shift : Nat) ∧ other < corr a (shiftedL a shift 1 a.length) best := by
  have hlt : ∀ lag : Int, lag ≠ ((shift : Nat) : Int) → corr a (shiftedL a shift 1 a.length) lag < corr a (shiftedL a shift 1 a.length) (shift : Nat) := fun lag hne => by
    rw [corr_shifted, corr_shifted]
    have h1 := self_lt ha (k := lag - (shift : Nat)) (by omega)
    have h2 : win (fun j => ex a j * ex a (j + ((shift : Nat) - (shift : Nat) : Int))) 0 a.length = win (fun j => ex a j * ex a j) 0 a.length := win_ext fun j _ _ => by rw [show j + ((shift : Int) - (shift : Nat)) = j by omega]
    rw [h2]
    exact Int.mul_lt_mul_of_pos_left h1 (by omega)
  have hbest : best = (shift : Nat) := by
    by_cases e : best = (shift : Nat)
    · exact e
    have h1 := h.first (shift : Nat) (by omega) (by omega) (fun x => e x.symm)
    have h2 := hlt best e
    omega
  subst hbest
  refine ⟨rfl, ?_⟩
  obtain ⟨l, l1, l2, l3, l4⟩ := h.some
  rw [← l4]
  exact hlt l l3
theorem shifted_app (a : List Int) (e : Nat) : shiftedL a e 1 a.length = List.replicate e 0 ++ a := by
  unfold shiftedL
  congr 1
  refine gi_ext (by simp) fun p hp => ?_
  have hp2 : p < a.length := by simpa using hp
  simp [gi, hp2]
end Go.Proofs.YtabmhfmglhjmjaaGreatDoor
set_option maxRecDepth 100000
set_option maxHeartbeats 4000000
set_option linter.unusedSimpArgs false
set_option linter.unusedVariables false
set_option linter.unusedSectionVars false
namespace Go.Proofs.YtabmhfmglhjmjaaGreatDoor
open Go.Ab Go.RowKit Go.Proofs
theorem lt_heap {w : World} {b : Nat} {o : Obj} (h : w.heap[b]? = some o) : b < w.heap.size := (Array.getElem?_eq_some_iff.1 h).1
def VarIs (P : Program) (O : Nat → Prop) (w : World) (name : String) (cs : Array Value) : Prop :=
  ∃ (g : Nat) (e : TypeId) (fz : Nat × Nat), P.globalNamed name = some g ∧ ¬ O g ∧ w.heap[g]? = some (Obj.cells cs e fz)
theorem VarIs.keep {P : Program} {O O' : Nat → Prop} {w w' : World} {name : String} {cs : Array Value} (t : Tr O w O' w') (h : VarIs P O w name cs) : VarIs P O' w' name cs := by
  obtain ⟨g, e, fz, h1, h2, h3⟩ := h
  obtain ⟨k1, k2⟩ := t.keep g (lt_heap h3) h2
  exact ⟨g, e, fz, h1, k2, k1.trans h3⟩
theorem VarIs.dead {P : Program} {O : Nat → Prop} {w : World} {name : String} {cs : Array Value} {D : Nat} {x : Option (List Deferred)} (o : Obj) (hD : w.heap[D]? = some (Obj.deferred x)) (h : VarIs P O w name cs) : VarIs P O (w.putObj D o) name cs := by
  obtain ⟨g, e, fz, h1, h2, h3⟩ := h
  refine ⟨g, e, fz, h1, h2, ?_⟩
  rw [World.putObj_heap_other (fun e => by subst e; rw [hD] at h3; cases h3)]
  exact h3
theorem VarIs.var {P : Program} {O : Nat → Prop} {w : World} {name : String} {cs : Array Value} (h : VarIs P O w name cs) : w.var? P name = some cs := by
  obtain ⟨g, e, fz, h1, h2, h3⟩ := h
  unfold World.var?
  rw [h1, Option.bind_some, h3]
def invV (O : Nat → Prop) (w : World) : Prop :=
  (∃ tp p, VarIs Tryz.prog O w "strconv.ErrSyntax" #[.iface tp p]) ∧ (∃ tp p, VarIs Tryz.prog O w "strconv.ErrRange" #[.iface tp p]) ∧
  VarIs Tryz.prog O w "internal/strconv.uint64pow10" (Lib.pow10Tab.map fun z => Value.int .u64 z).toArray ∧ ∃ m, VarIs Tryz.prog O w "internal/bytealg.MaxLen" #[.int .i64 m]
abbrev drV : Dr where
  loose := True
  inv := invV
  keep := fun t h => ⟨h.1.imp fun tp h => h.imp fun p h => h.keep t, h.2.1.imp fun tp h => h.imp fun p h => h.keep t, h.2.2.1.keep t, h.2.2.2.imp fun m h => h.keep t⟩
  dead := fun o hD h => ⟨h.1.imp fun tp h => h.imp fun p h => h.dead o hD, h.2.1.imp fun tp h => h.imp fun p h => h.dead o hD, h.2.2.1.dead o hD, h.2.2.2.imp fun m h => h.dead o hD⟩
abbrev loV : @Lo drV := @Lo.mk drV True.intro
end Go.Proofs.YtabmhfmglhjmjaaGreatDoor
namespace Go.Proofs
open Go.Shelf
def Tryz.layItoaM_ren : Go.Shelf.Ren := ⟨fun | 171 => 129 | 243 => 156 | 246 => 198 | 283 => 223 | 284 => 224 | 285 => 225 | 286 => 226 | 129 => 173 | 317 => 249 | 318 => 250 | 319 => 251 | 320 => 252 | 337 => 260 | 338 => 261 | n => n, fun | 3 => 3 | 9 => 9 | 2 => 2 | 4 => 4 | 171 => 265 | 0 => 0 | 53 => 228 | 37 => 197 | 5 => 5 | 173 => 267 | 212 => 287 | 51 => 226 | 20 => 20 | 213 => 288 | 46 => 194 | 232 => 302 | 233 => 303 | n => n, fun | 17 => 3 | 18 => 6 | 19 => 7 | n => n⟩
theorem Tryz.layItoaM : Go.Proofs.LaysM.n171 Tryz.prog Tryz.layItoaM_ren := {
  mixed := by kernel_rfl
  f129 := Tryz.func173.trans (congrArg some (by kernel_rfl))
  f171 := Tryz.func129.trans (congrArg some (by kernel_rfl))
  f243 := Tryz.func156.trans (congrArg some (by kernel_rfl))
  f246 := Tryz.func198.trans (congrArg some (by kernel_rfl))
  f283 := Tryz.func223.trans (congrArg some (by kernel_rfl))
  f284 := Tryz.func224.trans (congrArg some (by kernel_rfl))
  f285 := Tryz.func225.trans (congrArg some (by kernel_rfl))
  f286 := Tryz.func226.trans (congrArg some (by kernel_rfl))
  f317 := Tryz.func249.trans (congrArg some (by kernel_rfl))
  f318 := Tryz.func250.trans (congrArg some (by kernel_rfl))
  f319 := Tryz.func251.trans (congrArg some (by kernel_rfl))
  f320 := Tryz.func252.trans (congrArg some (by kernel_rfl))
  f337 := Tryz.func260.trans (congrArg some (by kernel_rfl))
  f338 := Tryz.func261.trans (congrArg some (by kernel_rfl))
  t0 := Tryz.underlying0
  a0 := Tryz.isAgg0
  z0 := Tryz.sizeOf0
  v0 := Tryz.zeroValue0
  t2 := Tryz.underlying2
  a2 := Tryz.isAgg2
  z2 := Tryz.sizeOf2
  v2 := Tryz.zeroValue2
  t3 := Tryz.underlying3
  a3 := Tryz.isAgg3
  z3 := Tryz.sizeOf3
  v3 := Tryz.zeroValue3
  t4 := Tryz.underlying4
  a4 := Tryz.isAgg4
  z4 := Tryz.sizeOf4
  v4 := Tryz.zeroValue4
  t5 := Tryz.underlying5
  a5 := Tryz.isAgg5
  z5 := Tryz.sizeOf5
  v5 := Tryz.zeroValue5
  t9 := Tryz.underlying9
  a9 := Tryz.isAgg9
  z9 := Tryz.sizeOf9
  v9 := Tryz.zeroValue9
  t20 := Tryz.underlying20
  a20 := Tryz.isAgg20
  z20 := Tryz.sizeOf20
  v20 := Tryz.zeroValue20
  t37 := Tryz.underlying197
  a37 := Tryz.isAgg197
  z37 := Tryz.sizeOf197
  v37 := Tryz.zeroValue197
  t46 := Tryz.underlying194
  a46 := Tryz.isAgg194
  z46 := Tryz.sizeOf194
  v46 := Tryz.zeroValue194
  t51 := Tryz.underlying226
  a51 := Tryz.isAgg226
  z51 := Tryz.sizeOf226
  v51 := Tryz.zeroValue226
  t53 := Tryz.underlying228
  a53 := Tryz.isAgg228
  z53 := Tryz.sizeOf228
  v53 := Tryz.zeroValue228
  t171 := Tryz.underlying265
  a171 := Tryz.isAgg265
  z171 := Tryz.sizeOf265
  v171 := Tryz.zeroValue265
  t173 := Tryz.underlying267
  a173 := Tryz.isAgg267
  z173 := Tryz.sizeOf267
  v173 := Tryz.zeroValue267
  t212 := Tryz.underlying287
  a212 := Tryz.isAgg287
  z212 := Tryz.sizeOf287
  v212 := Tryz.zeroValue287
  t213 := Tryz.underlying288
  a213 := Tryz.isAgg288
  z213 := Tryz.sizeOf288
  t232 := Tryz.underlying302
  a232 := Tryz.isAgg302
  z232 := Tryz.sizeOf302
  v232 := Tryz.zeroValue302
  t233 := Tryz.underlying303
  a233 := Tryz.isAgg303
  z233 := Tryz.sizeOf303
  v233 := Tryz.zeroValue303
  g17 := by kernel_rfl
  g18 := by kernel_rfl
  g19 := by kernel_rfl
  i0 := by kernel_rfl
  i2 := by kernel_rfl
  i3 := by kernel_rfl
  i4 := by kernel_rfl
  i5 := by kernel_rfl
  i9 := by kernel_rfl
  i20 := by kernel_rfl
  i37 := by kernel_rfl
  i46 := by kernel_rfl
  i51 := by kernel_rfl
  i53 := by kernel_rfl
  i171 := by kernel_rfl
  i173 := by kernel_rfl
  i212 := by kernel_rfl
  i232 := by kernel_rfl
  i233 := by kernel_rfl
  m17 := by kernel_rfl
  m18 := by kernel_rfl
  m19 := by kernel_rfl }
def Tryz.layAtoi_ren : Go.Shelf.Ren := ⟨fun | 172 => 154 | 244 => 195 | 245 => 196 | 247 => 217 | 279 => 218 | 280 => 219 | 281 => 220 | 282 => 221 | 287 => 246 | 316 => 247 | 171 => 129 | 205 => 248 | 321 => 258 | 322 => 259 | 243 => 156 | 246 => 198 | 283 => 223 | 284 => 224 | 285 => 225 | 286 => 226 | 129 => 173 | 317 => 249 | 318 => 250 | 319 => 251 | 320 => 252 | 337 => 260 | 338 => 261 | n => n, fun | 9 => 9 | 3 => 3 | 75 => 204 | 76 => 205 | 4 => 4 | 5 => 5 | 167 => 258 | 37 => 197 | 0 => 0 | 85 => 259 | 2 => 2 | 168 => 261 | 53 => 228 | 175 => 280 | 46 => 194 | 210 => 284 | 127 => 243 | 145 => 300 | 143 => 298 | 21 => 21 | 171 => 265 | 173 => 267 | 212 => 287 | 51 => 226 | 20 => 20 | 213 => 288 | 232 => 302 | 233 => 303 | 80 => 214 | n => n, fun | 15 => 1 | 16 => 2 | 17 => 3 | 18 => 6 | 19 => 7 | n => n⟩
theorem Tryz.layAtoi : Go.Proofs.LaysC.n172 Tryz.prog Tryz.layAtoi_ren := {
  mixed := by kernel_rfl
  f129 := Tryz.func173.trans (congrArg some (by kernel_rfl))
  f171 := Tryz.func129.trans (congrArg some (by kernel_rfl))
  f172 := Tryz.func154.trans (congrArg some (by kernel_rfl))
  f205 := Tryz.func248.trans (congrArg some (by kernel_rfl))
  f243 := Tryz.func156.trans (congrArg some (by kernel_rfl))
  f244 := Tryz.func195.trans (congrArg some (by kernel_rfl))
  f245 := Tryz.func196.trans (congrArg some (by kernel_rfl))
  f246 := Tryz.func198.trans (congrArg some (by kernel_rfl))
  f247 := Tryz.func217.trans (congrArg some (by kernel_rfl))
  f279 := Tryz.func218.trans (congrArg some (by kernel_rfl))
  f280 := Tryz.func219.trans (congrArg some (by kernel_rfl))
  f281 := Tryz.func220.trans (congrArg some (by kernel_rfl))
  f282 := Tryz.func221.trans (congrArg some (by kernel_rfl))
  f283 := Tryz.func223.trans (congrArg some (by kernel_rfl))
  f284 := Tryz.func224.trans (congrArg some (by kernel_rfl))
  f285 := Tryz.func225.trans (congrArg some (by kernel_rfl))
  f286 := Tryz.func226.trans (congrArg some (by kernel_rfl))
  f287 := Tryz.func246.trans (congrArg some (by kernel_rfl))
  f316 := Tryz.func247.trans (congrArg some (by kernel_rfl))
  f317 := Tryz.func249.trans (congrArg some (by kernel_rfl))
  f318 := Tryz.func250.trans (congrArg some (by kernel_rfl))
  f319 := Tryz.func251.trans (congrArg some (by kernel_rfl))
  f320 := Tryz.func252.trans (congrArg some (by kernel_rfl))
  f321 := Tryz.func258.trans (congrArg some (by kernel_rfl))
  f322 := Tryz.func259.trans (congrArg some (by kernel_rfl))
  f337 := Tryz.func260.trans (congrArg some (by kernel_rfl))
  f338 := Tryz.func261.trans (congrArg some (by kernel_rfl))
  t0 := Tryz.underlying0
  a0 := Tryz.isAgg0
  z0 := Tryz.sizeOf0
  v0 := Tryz.zeroValue0
  t2 := Tryz.underlying2
  a2 := Tryz.isAgg2
  z2 := Tryz.sizeOf2
  v2 := Tryz.zeroValue2
  t3 := Tryz.underlying3
  a3 := Tryz.isAgg3
  z3 := Tryz.sizeOf3
  v3 := Tryz.zeroValue3
  t4 := Tryz.underlying4
  a4 := Tryz.isAgg4
  z4 := Tryz.sizeOf4
  v4 := Tryz.zeroValue4
  t5 := Tryz.underlying5
  a5 := Tryz.isAgg5
  z5 := Tryz.sizeOf5
  v5 := Tryz.zeroValue5
  t9 := Tryz.underlying9
  a9 := Tryz.isAgg9
  z9 := Tryz.sizeOf9
  v9 := Tryz.zeroValue9
  t20 := Tryz.underlying20
  a20 := Tryz.isAgg20
  z20 := Tryz.sizeOf20
  v20 := Tryz.zeroValue20
  t21 := Tryz.underlying21
  a21 := Tryz.isAgg21
  z21 := Tryz.sizeOf21
  v21 := Tryz.zeroValue21
  t37 := Tryz.underlying197
  a37 := Tryz.isAgg197
  z37 := Tryz.sizeOf197
  v37 := Tryz.zeroValue197
  t46 := Tryz.underlying194
  a46 := Tryz.isAgg194
  z46 := Tryz.sizeOf194
  v46 := Tryz.zeroValue194
  t51 := Tryz.underlying226
  a51 := Tryz.isAgg226
  z51 := Tryz.sizeOf226
  v51 := Tryz.zeroValue226
  t53 := Tryz.underlying228
  a53 := Tryz.isAgg228
  z53 := Tryz.sizeOf228
  v53 := Tryz.zeroValue228
  t75 := Tryz.underlying204
  a75 := Tryz.isAgg204
  z75 := Tryz.sizeOf204
  v75 := Tryz.zeroValue204
  t76 := Tryz.underlying205
  a76 := Tryz.isAgg205
  z76 := Tryz.sizeOf205
  v76 := Tryz.zeroValue205
  t85 := Tryz.underlying259
  a85 := Tryz.isAgg259
  z85 := Tryz.sizeOf259
  v85 := Tryz.zeroValue259
  t127 := Tryz.underlying243
  a127 := Tryz.isAgg243
  z127 := Tryz.sizeOf243
  v127 := Tryz.zeroValue243
  t143 := Tryz.underlying298
  a143 := Tryz.isAgg298
  z143 := Tryz.sizeOf298
  v143 := Tryz.zeroValue298
  t145 := Tryz.underlying300
  a145 := Tryz.isAgg300
  z145 := Tryz.sizeOf300
  v145 := Tryz.zeroValue300
  t167 := Tryz.underlying258
  a167 := Tryz.isAgg258
  z167 := Tryz.sizeOf258
  v167 := Tryz.zeroValue258
  t168 := Tryz.underlying261
  a168 := Tryz.isAgg261
  z168 := Tryz.sizeOf261
  v168 := Tryz.zeroValue261
  t171 := Tryz.underlying265
  a171 := Tryz.isAgg265
  z171 := Tryz.sizeOf265
  v171 := Tryz.zeroValue265
  t173 := Tryz.underlying267
  a173 := Tryz.isAgg267
  z173 := Tryz.sizeOf267
  v173 := Tryz.zeroValue267
  t175 := Tryz.underlying280
  a175 := Tryz.isAgg280
  z175 := Tryz.sizeOf280
  v175 := Tryz.zeroValue280
  t210 := Tryz.underlying284
  a210 := Tryz.isAgg284
  z210 := Tryz.sizeOf284
  v210 := Tryz.zeroValue284
  t212 := Tryz.underlying287
  a212 := Tryz.isAgg287
  z212 := Tryz.sizeOf287
  v212 := Tryz.zeroValue287
  t213 := Tryz.underlying288
  a213 := Tryz.isAgg288
  z213 := Tryz.sizeOf288
  t232 := Tryz.underlying302
  a232 := Tryz.isAgg302
  z232 := Tryz.sizeOf302
  v232 := Tryz.zeroValue302
  t233 := Tryz.underlying303
  a233 := Tryz.isAgg303
  z233 := Tryz.sizeOf303
  v233 := Tryz.zeroValue303
  g15 := by kernel_rfl
  g16 := by kernel_rfl
  g17 := by kernel_rfl
  g18 := by kernel_rfl
  g19 := by kernel_rfl
  t80 := Tryz.underlying214
  a80 := Tryz.isAgg214
  z80 := Tryz.sizeOf214
  v80 := Tryz.zeroValue214
  i0 := by kernel_rfl
  i2 := by kernel_rfl
  i3 := by kernel_rfl
  i4 := by kernel_rfl
  i5 := by kernel_rfl
  i9 := by kernel_rfl
  i20 := by kernel_rfl
  i21 := by kernel_rfl
  i37 := by kernel_rfl
  i46 := by kernel_rfl
  i51 := by kernel_rfl
  i53 := by kernel_rfl
  i75 := by kernel_rfl
  i76 := by kernel_rfl
  i80 := by kernel_rfl
  i85 := by kernel_rfl
  i127 := by kernel_rfl
  i143 := by kernel_rfl
  i145 := by kernel_rfl
  i167 := by kernel_rfl
  i168 := by kernel_rfl
  i171 := by kernel_rfl
  i173 := by kernel_rfl
  i175 := by kernel_rfl
  i210 := by kernel_rfl
  i212 := by kernel_rfl
  i232 := by kernel_rfl
  i233 := by kernel_rfl
  m15 := by kernel_rfl
  m16 := by kernel_rfl
  m17 := by kernel_rfl
  m18 := by kernel_rfl
  m19 := by kernel_rfl
  c0 := by kernel_rfl
  c2 := by kernel_rfl
  c3 := by kernel_rfl
  c4 := by kernel_rfl
  c5 := by kernel_rfl
  c9 := by kernel_rfl
  c20 := by kernel_rfl
  c21 := by kernel_rfl
  c37 := by kernel_rfl
  c46 := by kernel_rfl
  c51 := by kernel_rfl
  c53 := by kernel_rfl
  c75 := by kernel_rfl
  c76 := by kernel_rfl
  c80 := by kernel_rfl
  c85 := by kernel_rfl
  c127 := by kernel_rfl
  c143 := by kernel_rfl
  c145 := by kernel_rfl
  c167 := by kernel_rfl
  c168 := by kernel_rfl
  c171 := by kernel_rfl
  c173 := by kernel_rfl
  c175 := by kernel_rfl
  c210 := by kernel_rfl
  c212 := by kernel_rfl
  c213 := by kernel_rfl
  c232 := by kernel_rfl
  c233 := by kernel_rfl }
def Tryz.laySplit_ren : Go.Shelf.Ren := ⟨fun | 146 => 125 | 221 => 153 | 268 => 192 | 138 => 193 | 143 => 194 | 195 => 213 | 197 => 214 | 218 => 215 | 219 => 216 | 260 => 241 | 217 => 242 | 225 => 243 | 224 => 244 | 267 => 245 | 266 => 256 | 314 => 257 | n => n, fun | 9 => 9 | 31 => 37 | 3 => 3 | 4 => 4 | 0 => 0 | 105 => 255 | 21 => 21 | 5 => 5 | 46 => 194 | 119 => 291 | 139 => 294 | 138 => 293 | 146 => 295 | 51 => 226 | n => n, fun | 1 => 0 | 3 => 4 | 4 => 5 | n => n⟩
theorem Tryz.laySplit : Go.Proofs.LaysM.n146 Tryz.prog Tryz.laySplit_ren := {
  mixed := by kernel_rfl
  f138 := Tryz.func193.trans (congrArg some (by kernel_rfl))
  f143 := Tryz.func194.trans (congrArg some (by kernel_rfl))
  f146 := Tryz.func125.trans (congrArg some (by kernel_rfl))
  f195 := Tryz.func213.trans (congrArg some (by kernel_rfl))
  f197 := Tryz.func214.trans (congrArg some (by kernel_rfl))
  f217 := Tryz.func242.trans (congrArg some (by kernel_rfl))
  f218 := Tryz.func215.trans (congrArg some (by kernel_rfl))
  f219 := Tryz.func216.trans (congrArg some (by kernel_rfl))
  f221 := Tryz.func153.trans (congrArg some (by kernel_rfl))
  f224 := Tryz.func244.trans (congrArg some (by kernel_rfl))
  f225 := Tryz.func243.trans (congrArg some (by kernel_rfl))
  f260 := Tryz.func241.trans (congrArg some (by kernel_rfl))
  f266 := Tryz.func256.trans (congrArg some (by kernel_rfl))
  f267 := Tryz.func245.trans (congrArg some (by kernel_rfl))
  f268 := Tryz.func192.trans (congrArg some (by kernel_rfl))
  f314 := Tryz.func257.trans (congrArg some (by kernel_rfl))
  t0 := Tryz.underlying0
  a0 := Tryz.isAgg0
  z0 := Tryz.sizeOf0
  v0 := Tryz.zeroValue0
  t3 := Tryz.underlying3
  a3 := Tryz.isAgg3
  z3 := Tryz.sizeOf3
  v3 := Tryz.zeroValue3
  t4 := Tryz.underlying4
  a4 := Tryz.isAgg4
  z4 := Tryz.sizeOf4
  v4 := Tryz.zeroValue4
  t5 := Tryz.underlying5
  a5 := Tryz.isAgg5
  z5 := Tryz.sizeOf5
  v5 := Tryz.zeroValue5
  t9 := Tryz.underlying9
  a9 := Tryz.isAgg9
  z9 := Tryz.sizeOf9
  v9 := Tryz.zeroValue9
  t21 := Tryz.underlying21
  a21 := Tryz.isAgg21
  z21 := Tryz.sizeOf21
  v21 := Tryz.zeroValue21
  t31 := Tryz.underlying37
  a31 := Tryz.isAgg37
  z31 := Tryz.sizeOf37
  v31 := Tryz.zeroValue37
  t46 := Tryz.underlying194
  a46 := Tryz.isAgg194
  z46 := Tryz.sizeOf194
  v46 := Tryz.zeroValue194
  t51 := Tryz.underlying226
  a51 := Tryz.isAgg226
  z51 := Tryz.sizeOf226
  v51 := Tryz.zeroValue226
  t105 := Tryz.underlying255
  a105 := Tryz.isAgg255
  z105 := Tryz.sizeOf255
  v105 := Tryz.zeroValue255
  t119 := Tryz.underlying291
  a119 := Tryz.isAgg291
  z119 := Tryz.sizeOf291
  t138 := Tryz.underlying293
  a138 := Tryz.isAgg293
  z138 := Tryz.sizeOf293
  v138 := Tryz.zeroValue293
  t139 := Tryz.underlying294
  a139 := Tryz.isAgg294
  z139 := Tryz.sizeOf294
  v139 := Tryz.zeroValue294
  t146 := Tryz.underlying295
  a146 := Tryz.isAgg295
  z146 := Tryz.sizeOf295
  v146 := Tryz.zeroValue295
  g1 := by kernel_rfl
  g3 := by kernel_rfl
  g4 := by kernel_rfl
  i0 := by kernel_rfl
  i3 := by kernel_rfl
  i4 := by kernel_rfl
  i5 := by kernel_rfl
  i9 := by kernel_rfl
  i21 := by kernel_rfl
  i31 := by kernel_rfl
  i46 := by kernel_rfl
  i51 := by kernel_rfl
  i105 := by kernel_rfl
  i138 := by kernel_rfl
  i139 := by kernel_rfl
  i146 := by kernel_rfl
  m1 := by kernel_rfl
  s1_3 := fun w h => Go.Proofs.cell_of_shapedOpen_int (zero := #[.int .i64 0]) (t := 3) h (of_decide_eq_true (by kernel_rfl)) (by kernel_rfl) rfl (by kernel_rfl) (by kernel_rfl) Tryz.underlying3
  m3 := by kernel_rfl
  m4 := by kernel_rfl }
def Tryz.layTrim_ren : Go.Shelf.Ren := ⟨fun | 101 => 155 | 208 => 197 | 206 => 222 | n => n, fun | 9 => 9 | 4 => 4 | 3 => 3 | n => n, fun | n => n⟩
theorem Tryz.layTrim : Go.Proofs.Lays.n101 Tryz.prog Tryz.layTrim_ren := {
  mixed := by kernel_rfl
  f101 := Tryz.func155.trans (congrArg some (by kernel_rfl))
  f206 := Tryz.func222.trans (congrArg some (by kernel_rfl))
  f208 := Tryz.func197.trans (congrArg some (by kernel_rfl))
  t3 := Tryz.underlying3
  a3 := Tryz.isAgg3
  z3 := Tryz.sizeOf3
  v3 := Tryz.zeroValue3
  t4 := Tryz.underlying4
  a4 := Tryz.isAgg4
  z4 := Tryz.sizeOf4
  v4 := Tryz.zeroValue4
  t9 := Tryz.underlying9
  a9 := Tryz.isAgg9
  z9 := Tryz.sizeOf9
  v9 := Tryz.zeroValue9 }
end Go.Proofs
set_option maxRecDepth 100000
set_option maxHeartbeats 4000000
set_option linter.unusedSimpArgs false
set_option linter.unusedVariables false
set_option linter.unusedSectionVars false
namespace Go.Proofs.YtabmhfmglhjmjaaGreatDoor
open Go.Ab Go.RowKit Go.Shelf Go.Proofs
attribute [local instance] drV loV
theorem one_arg {O : Nat → Prop} {w : World} {x : Value} {vs : Array Value} (hr : Rps O w [.v x] vs) : vs = #[x] := by
  obtain ⟨u, hu, h0⟩ := hr.2 0 _ rfl
  obtain rfl := h0.v_inv
  refine Array.ext_getElem? fun j => ?_
  match j with
  | 0 => simpa using hu
  | j + 1 =>
    have : vs.size = 1 := hr.1
    rw [Array.getElem?_eq_none (by omega), Array.getElem?_eq_none (by simp)]
theorem two_args {O : Nat → Prop} {w : World} {x y : Value} {vs : Array Value} (hr : Rps O w [.v x, .v y] vs) : vs = #[x, y] := by
  obtain ⟨u, hu, h0⟩ := hr.2 0 _ rfl
  obtain ⟨u1, hu1, h1⟩ := hr.2 1 _ rfl
  obtain rfl := h0.v_inv
  obtain rfl := h1.v_inv
  refine Array.ext_getElem? fun j => ?_
  match j with
  | 0 => simpa using hu
  | 1 => simpa using hu1
  | j + 2 =>
    have : vs.size = 2 := hr.1
    rw [Array.getElem?_eq_none (by omega), Array.getElem?_eq_none (by simp)]
def itoaS (n : Int) : ByteArray := ⟨(Lib.itoa n).toArray⟩
theorem c_ItoaV (n : Int) (h : I64 n) : Pure Tryz.prog 129 [iv n] (AV.v (.string (itoaS n))) := by
  refine ⟨Tryz.call129, fun O w vs hr hO => ?_⟩
  obtain rfl := one_arg hr
  refine (Any.strconv_Itoa Tryz.layItoaM n h.1 h.2 w hO.2.2.2.1.var).mono fun e w' ⟨he, k, os, hw⟩ => ?_
  subst hw
  exact ⟨_, he, Gr.of_below (Go.Lib.below_grow _ _ (Nat.le_refl _) _ _) (.inl Lo.h), Rp.v _⟩
theorem c_TrimPrefix (s p : ByteArray) : Pure Tryz.prog 155 [AV.v (.string s), AV.v (.string p)] (AV.v (.string ⟨(Lib.trimPrefix s.data.toList p.data.toList).toArray⟩)) := by
  refine ⟨Tryz.call155, fun O w vs hr hO => ?_⟩
  obtain rfl := two_args hr
  refine (Any.strings_TrimPrefix Tryz.layTrim s p w).mono fun e w' ⟨he, hw⟩ => ?_
  subst hw
  exact ⟨_, he, Gr.refl _, Rp.v _⟩
theorem c_Split (s sep : ByteArray) (hs : s.size < 4294967281) (h1 : 1 ≤ sep.size) :
    Pure Tryz.prog 125 [AV.v (.string s), AV.v (.string sep)] (ssl (Lib.splitB sep 0 (Lib.countB s sep) s)) := by
  refine ⟨Tryz.call125, fun O w vs hr hO => ?_⟩
  obtain rfl := two_args hr
  obtain ⟨m, hm⟩ := hO.2.2.2.2
  have hm1 : w.cell? ⟨Tryz.laySplit_ren.g 1, 0, none⟩ = some (.int .i64 m) := by
    have := World.var?_cell Tryz.laySplit.m1 hm.var 0
    simpa using this
  refine (Any.strings_Split { Tryz.laySplit with } Tryz.laySplit.i9 s sep m w hs hm1 h1).mono fun e w' ⟨he, hw⟩ => ?_
  subst hw
  have hlen := Lib.splitB_all sep h1 0 _ s rfl
  generalize Lib.splitB sep 0 (Lib.countB s sep) s = xs at hlen he ⊢
  rw [← hlen] at he
  refine ⟨_, he, gr_alloc _ _, Rp.mk_sl (fun h => by have := hO.1 _ h; omega) (by show w.heap.size < (w.heap.push _).size; rw [Array.size_push]; omega) (Nat.le_refl _) (by rw [strs_len]; omega) fun i c hc => ?_⟩
  rw [Nat.zero_add, cell_alloc]
  unfold strs at hc
  rw [List.getElem?_map] at hc
  cases hx : xs[i]? with
  | none => rw [hx] at hc; cases hc
  | some y =>
    rw [hx] at hc
    simp only [Option.map_some, Option.some.injEq] at hc
    subst hc
    exact ⟨.string y, by simp [hx], Rp.v _⟩
abbrev errA : AV := .ic (Tryz.layAtoi_ren.t 168) (.pt [] 0)
theorem err_tu {O : Nat → Prop} {w : World} {n : Int} {N : Nat} (hO : ¬ O N) (hN : N < w.heap.size) :
    Rp O w (.tu [iv n, errA]) (.tuple #[.int .i64 n, .iface (Tryz.layAtoi_ren.t 168) (.pointer (some ⟨N, 0, none⟩))]) := by
  refine .tu _ _ (fun i => if i = 0 then .int .i64 n else .iface (Tryz.layAtoi_ren.t 168) (.pointer (some ⟨N, 0, none⟩))) rfl ?_ ?_
  · intro i c hc
    match i with
    | 0 => rfl
    | 1 => rfl
    | i + 2 => simp at hc
  · intro i c hc
    match i with
    | 0 => simp only [List.getElem?_cons_zero, Option.some.injEq] at hc; subst hc; exact Rp.v _
    | 1 =>
      simp only [List.getElem?_cons_succ, List.getElem?_cons_zero, Option.some.injEq] at hc
      subst hc
      exact .ic _ _ _ (.pt [] 0 N 0 (fun _ => .nilIface) hO hN (fun i c h => by simp at h) (fun i c h => by simp at h))
    | i + 2 => simp at hc
theorem ok_tu {O : Nat → Prop} {w : World} {n : Int} : Rp O w (.tu [iv n, .v .nilIface]) (.tuple #[.int .i64 n, .nilIface]) := by
  refine .tu _ _ (fun i => if i = 0 then .int .i64 n else .nilIface) rfl ?_ ?_
  · intro i c hc
    match i with
    | 0 => rfl
    | 1 => rfl
    | i + 2 => simp at hc
  · intro i c hc
    match i with
    | 0 => simp only [List.getElem?_cons_zero, Option.some.injEq] at hc; subst hc; exact Rp.v _
    | 1 => simp only [List.getElem?_cons_succ, List.getElem?_cons_zero, Option.some.injEq] at hc; subst hc; exact Rp.v _
    | i + 2 => simp at hc
theorem c_AtoiOk (s : ByteArray) (hs : s.size ≤ 281474976710656) (v : Int) (h : Lib.atoiAll s.data.toList = .ok v) :
    Pure Tryz.prog 154 [AV.v (.string s)] (.tu [iv v, .v .nilIface]) := by
  refine ⟨Tryz.call154, fun O w vs hr hO => ?_⟩
  obtain rfl := one_arg hr
  refine (Any.strconv_Atoi_ok Tryz.layAtoi s (by omega) v h w).mono fun e w' ⟨he, hw⟩ => ?_
  refine ⟨_, he, ?_, ok_tu⟩
  rcases hw with rfl | ⟨t, rfl⟩
  · exact Gr.refl _
  · exact Gr.of_below ⟨rfl, rfl, rfl, by rw [Lib.bytesWorld_size]; omega, fun k hk => Lib.bytesWorld_at_old w _ t k hk⟩ (.inl Lo.h)
theorem c_AtoiSyntax (s : ByteArray) (hs : s.size ≤ 281474976710656) (h : ∀ v, Lib.atoiAll s.data.toList ≠ .ok v) (h2 : Lib.atoiAll s.data.toList ≠ .range) :
    Pure Tryz.prog 154 [AV.v (.string s)] (.tu [iv 0, errA]) := by
  refine ⟨Tryz.call154, fun O w vs hr hO => ?_⟩
  obtain rfl := one_arg hr
  obtain ⟨tp, p, hv⟩ := hO.2.1
  cases hq : Lib.atoiAll s.data.toList
  · exact absurd hq (h _)
  rotate_left
  · exact absurd hq h2
  refine (Any.strconv_Atoi_syntax_var Tryz.layAtoi s hs hq tp p w hv.var).mono fun e w' ⟨N, he, h1, h2, h3⟩ => ?_
  exact ⟨_, he, Gr.of_below h3 (.inl Lo.h), err_tu (fun h => by have := hO.1 _ h; omega) (lt_heap h2)⟩
theorem c_AtoiRange (s : ByteArray) (hs : s.size ≤ 281474976710656) (h : Lib.atoiAll s.data.toList = .range) :
    Pure Tryz.prog 154 [AV.v (.string s)] (.tu [iv (Lib.atoiSat s.data.toList), errA]) := by
  refine ⟨Tryz.call154, fun O w vs hr hO => ?_⟩
  obtain rfl := one_arg hr
  obtain ⟨tp, p, hv⟩ := hO.2.2.1
  refine (Any.strconv_Atoi_range_var Tryz.layAtoi s hs h tp p w hv.var).mono fun e w' ⟨N, he, h1, h2, h3⟩ => ?_
  exact ⟨_, he, Gr.of_below h3 (.inl Lo.h), err_tu (fun h => by have := hO.1 _ h; omega) (lt_heap h2)⟩
end Go.Proofs.YtabmhfmglhjmjaaGreatDoor
set_option linter.unusedVariables false
set_option linter.unusedSimpArgs false
namespace Go.Proofs.YtabmhfmglhjmjaaGreatDoor
open Go Go.Lib
theorem dig_of (d : Nat) (h : d < 10) : digitVal (UInt8.ofNat (48 + d)) = some d ∧ (UInt8.ofNat (48 + d)).toNat = 48 + d := by
  have h1 : (UInt8.ofNat (48 + d)).toNat = 48 + d := by
    rw [UInt8.toNat_ofNat']; omega
  refine ⟨?_, h1⟩
  unfold digitVal
  rw [h1, if_pos (by omega)]
  congr 1
  omega
theorem ofNat_dig {b : UInt8} {d : Nat} (h : digitVal b = some d) : UInt8.ofNat (48 + d) = b ∧ d < 10 := by
  obtain ⟨h1, h2, h3⟩ := digitVal_eq h
  refine ⟨?_, by omega⟩
  have : 48 + d = b.toNat := by omega
  rw [this]
  exact UInt8.ofNat_toNat
theorem decFrom_append : ∀ (l : List UInt8) (acc : Nat) (b : UInt8), decFrom acc (l ++ [b]) = (decFrom acc l).bind fun n => (digitVal b).map fun d => n * 10 + d
  | [], acc, b => by
    simp only [List.nil_append, decFrom, Option.bind_some]
    cases digitVal b <;> rfl
  | c :: l, acc, b => by
    simp only [List.cons_append, decFrom]
    cases digitVal c with
    | none => rfl
    | some d => exact decFrom_append l _ b
theorem decFrom_digits (u : Nat) : decFrom 0 (decDigits u) = some u := by
  induction u using Nat.strongRecOn with
  | _ u ih =>
    rw [decDigits]
    split
    · rename_i h
      simp only [decFrom, (dig_of u h).1]
      congr 1
      omega
    · rename_i h
      rw [decFrom_append, ih (u / 10) (by omega), (dig_of (u % 10) (by omega)).1]
      simp only [Option.bind_some, Option.map_some, Option.some.injEq]
      omega
theorem digits_ne (u : Nat) : decDigits u ≠ [] := by
  rw [decDigits]
  split
  · simp
  · simp
theorem digits_head (u : Nat) (hu : 1 ≤ u) : ∃ b r, decDigits u = b :: r ∧ 49 ≤ b.toNat ∧ b.toNat ≤ 57 := by
  induction u using Nat.strongRecOn with
  | _ u ih =>
    rw [decDigits]
    split
    · rename_i h
      exact ⟨_, [], rfl, by rw [(dig_of u h).2]; omega, by rw [(dig_of u h).2]; omega⟩
    · rename_i h
      obtain ⟨b, r, h1, h2, h3⟩ := ih (u / 10) (by omega) (by omega)
      exact ⟨b, r ++ [UInt8.ofNat (48 + u % 10)], by rw [h1]; rfl, h2, h3⟩
theorem digits_zero : decDigits 0 = [48] := by rw [decDigits]; rfl
theorem decFrom_pos : ∀ (l : List UInt8) (acc n : Nat), decFrom acc l = some n → 1 ≤ acc → 1 ≤ n
  | [], acc, n, h, ha => by simp only [decFrom, Option.some.injEq] at h; omega
  | b :: l, acc, n, h, ha => by
    simp only [decFrom] at h
    cases hd : digitVal b with
    | none => rw [hd] at h; cases h
    | some d => rw [hd] at h; exact decFrom_pos l _ n h (by omega)
theorem digits_of (l : List UInt8) : ∀ n : Nat, decFrom 0 l = some n → l ≠ [] → (l.head? = some 48 → l.length = 1) → decDigits n = l := by
  induction hl : l.length using Nat.strongRecOn generalizing l with
  | _ k ih =>
    intro n h hne hz
    rcases List.eq_nil_or_concat l with rfl | ⟨r, b, rfl⟩
    · exact absurd rfl hne
    · rw [List.concat_eq_append] at *
      rw [decFrom_append] at h
      cases hr : decFrom 0 r with
      | none => rw [hr] at h; cases h
      | some m =>
        rw [hr] at h
        cases hb : digitVal b with
        | none => rw [hb] at h; cases h
        | some d =>
          rw [hb] at h
          simp only [Option.bind_some, Option.map_some, Option.some.injEq] at h
          obtain ⟨hbe, hd⟩ := ofNat_dig hb
          by_cases hr0 : r = []
          · subst hr0
            simp only [decFrom, Option.some.injEq] at hr
            have hn : n = d := by omega
            subst hn
            rw [decDigits, dif_pos hd, hbe]; rfl
          · have hm : 1 ≤ m := by
              cases r with
              | nil => exact absurd rfl hr0
              | cons c r =>
                simp only [decFrom] at hr
                cases hc : digitVal c with
                | none => rw [hc] at hr; cases hr
                | some e =>
                  rw [hc] at hr
                  refine decFrom_pos r _ m hr ?_
                  have hc0 : c ≠ 48 := fun e0 => by
                    have := hz (by simp [e0])
                    rw [← hl] at this
                    simp at this
                  obtain ⟨g1, g2, g3⟩ := digitVal_eq hc
                  have : c.toNat ≠ 48 := fun e0 => hc0 (UInt8.toNat_inj.1 e0)
                  omega
            have hdr := ih r.length (by rw [← hl]; simp) r rfl m hr hr0 (fun h48 => by
              cases r with
              | nil => exact absurd rfl hr0
              | cons c r =>
                have := hz (by simpa using h48)
                rw [← hl] at this
                simp at this)
            rw [decDigits, dif_neg (by omega), show n / 10 = m by omega, show n % 10 = d by omega, hdr, hbe]
def numR (D : Nat) (l : List UInt8) : Option Int :=
  let at' := if l.head? = some 45 then 1 else 0
  if l.length = at' ∨ D < l.length - at' ∨ (l[at']? = some 48 ∧ 1 < l.length) then none
  else (decFrom 0 (l.drop at')).map fun (u : Nat) => if at' = 1 then -(u : Int) else (u : Int)
def numP (D : Nat) (l : List UInt8) : Bool := match atoiAll l with
  | .ok v => decide (itoa v = l) && decide ((trimPrefix l [45]).length ≤ D)
  | _ => false
def numV (l : List UInt8) : Int := match atoiAll l with
  | .ok v => v
  | .range => atoiSat l
  | _ => 0
theorem atoi_itoa {u : Nat} : atoi (itoa (u : Int)) = some (u : Int) ∧ (1 ≤ u → atoi (itoa (-(u : Int))) = some (-(u : Int))) := by
  have hp : ∀ l : List UInt8, l ≠ [] → decNat l = decFrom 0 l := fun l h => by
    unfold decNat
    cases l with
    | nil => exact absurd rfl h
    | cons a r => rfl
  constructor
  · unfold itoa
    rw [if_neg (by omega), Int.toNat_natCast]
    by_cases h0 : u = 0
    · subst h0; rw [digits_zero]; rfl
    · obtain ⟨b, r, h1, h2, h3⟩ := digits_head u (by omega)
      have hb1 : (b == 45) = false := by rw [beq_eq_false_iff_ne]; intro e; subst e; simp at h2
      have hb2 : (b == 43) = false := by rw [beq_eq_false_iff_ne]; intro e; subst e; simp at h2
      rw [h1]
      unfold atoi
      simp only [hb1, hb2, Bool.false_eq_true, if_false]
      rw [hp _ (by simp), ← h1, decFrom_digits]; rfl
  · intro h1
    unfold itoa
    rw [if_pos (by omega)]
    unfold atoi
    simp only [beq_self_eq_true, if_true]
    rw [show (-(u : Int)).natAbs = u by omega, hp _ (digits_ne u), decFrom_digits]; rfl
theorem trim_minus (r : List UInt8) : trimPrefix (45 :: r) [45] = r := by simp [trimPrefix, hasPrefix]
theorem trim_other {l : List UInt8} (h : l.head? ≠ some 45) : trimPrefix l [45] = l := by
  unfold trimPrefix hasPrefix
  cases l with
  | nil => rfl
  | cons a r =>
    have : (45 == a) = false := by rw [beq_eq_false_iff_ne]; intro e; subst e; simp at h
    simp [List.isPrefixOf, this]
theorem num_same {D : Nat} (hD : D ≤ 17) (l : List UInt8) : (numP D l = true ↔ ∃ v, numR D l = some v) ∧ ∀ v, numR D l = some v → numV l = v := by
  have hfw : ∀ v, numR D l = some v → atoiAll l = .ok v ∧ itoa v = l ∧ (trimPrefix l [45]).length ≤ D := by
    intro v h
    unfold numR at h
    by_cases h45 : l.head? = some 45
    · obtain ⟨r, rfl⟩ : ∃ r, l = 45 :: r := by
        cases l with
        | nil => cases h45
        | cons a r => simp at h45; exact ⟨r, by rw [h45]⟩
      simp only [List.head?_cons, if_true, List.length_cons, List.drop_succ_cons, List.drop_zero, List.getElem?_cons_succ] at h
      split at h
      · cases h
      · rename_i hc
        rw [not_or, not_or] at hc
        obtain ⟨c1, c2, c3⟩ := hc
        cases hu : decFrom 0 r with
        | none => rw [hu] at h; cases h
        | some u =>
          rw [hu] at h
          simp only [Option.map_some, Option.some.injEq] at h
          have hne : r ≠ [] := fun e => by subst e; simp at c1
          have hz : r.head? ≠ some 48 := fun e => by
            refine c3 ⟨?_, ?_⟩
            · cases r with
              | nil => cases e
              | cons a r => simpa using e
            · have : r.length ≠ 0 := fun e => hne (List.eq_nil_of_length_eq_zero e)
              omega
          have hdg := digits_of r u hu hne (fun e => absurd e hz)
          have hu1 : 1 ≤ u := by
            rcases Nat.eq_zero_or_pos u with rfl | h
            · rw [digits_zero] at hdg; subst hdg; simp at hz
            · exact h
          subst h
          have hit : itoa (-(u : Int)) = 45 :: r := by
            unfold itoa
            rw [if_pos (by omega), show (-(u : Int)).natAbs = u by omega, hdg]
          refine ⟨?_, hit, by rw [trim_minus]; omega⟩
          rw [atoiAll_short _ (by simp; omega), ← hit, atoi_itoa.2 hu1]; rfl
    · simp only [h45, if_false, List.drop_zero, Nat.sub_zero] at h
      split at h
      · cases h
      · rename_i hc
        rw [not_or, not_or] at hc
        obtain ⟨c1, c2, c3⟩ := hc
        cases hu : decFrom 0 l with
        | none => rw [hu] at h; cases h
        | some u =>
          rw [hu] at h
          simp only [Option.map_some, Option.some.injEq] at h
          have hne : l ≠ [] := fun e => by subst e; simp at c1
          have hdg := digits_of l u hu hne (fun e => by
            have : ¬ 1 < l.length := fun h1 => c3 ⟨by
              cases l with
              | nil => cases e
              | cons a r => simpa using e, h1⟩
            have : l.length ≠ 0 := fun e => hne (List.eq_nil_of_length_eq_zero e)
            omega)
          have hv : v = (u : Int) := by simpa using h.symm
          subst hv
          have hit : itoa (u : Int) = l := by
            unfold itoa
            rw [if_neg (by omega), Int.toNat_natCast, hdg]
          refine ⟨?_, hit, by rw [trim_other h45]; omega⟩
          rw [atoiAll_short _ (by omega), ← hit, atoi_itoa.1]; rfl
  refine ⟨⟨fun h => ?_, fun ⟨v, h⟩ => ?_⟩, fun v h => ?_⟩
  · unfold numP at h
    split at h
    · rename_i v hv
      rw [Bool.and_eq_true, decide_eq_true_eq, decide_eq_true_eq] at h
      obtain ⟨h1, h2⟩ := h
      refine ⟨v, ?_⟩
      unfold numR
      by_cases hneg : v < 0
      · have hl : l = 45 :: decDigits v.natAbs := by rw [← h1]; unfold itoa; rw [if_pos hneg]
        subst hl
        rw [trim_minus] at h2
        obtain ⟨b, r, e1, e2, e3⟩ := digits_head v.natAbs (by omega)
        have hlen : (decDigits v.natAbs).length ≠ 0 := fun e => digits_ne _ (List.eq_nil_of_length_eq_zero e)
        have h48 : ¬ (decDigits v.natAbs)[0]? = some 48 := by
          rw [e1]; intro e; simp at e; subst e; simp at e2
        simp only [List.head?_cons, if_true, List.length_cons, List.drop_succ_cons, List.drop_zero, List.getElem?_cons_succ]
        rw [if_neg (by rintro (h | h | h); · omega
                       · omega
                       · exact h48 h.1), decFrom_digits]
        simp only [Option.map_some, Option.some.injEq]
        omega
      · have hl : l = decDigits v.toNat := by rw [← h1]; unfold itoa; rw [if_neg hneg]
        have hlen : (decDigits v.toNat).length ≠ 0 := fun e => digits_ne _ (List.eq_nil_of_length_eq_zero e)
        have hh : l.head? ≠ some 45 := by
          rw [hl]
          by_cases h0 : v.toNat = 0
          · rw [h0, digits_zero]; simp
          · obtain ⟨b, r, e1, e2, e3⟩ := digits_head v.toNat (by omega)
            rw [e1]; intro e; simp at e; subst e; simp at e2
        rw [trim_other hh] at h2
        simp only [hh, if_false, List.drop_zero, Nat.sub_zero]
        have h48 : ¬ (l[0]? = some 48 ∧ 1 < l.length) := by
          rintro ⟨e, h1⟩
          rw [hl] at e h1
          by_cases h0 : v.toNat = 0
          · rw [h0, digits_zero] at h1; simp at h1
          · obtain ⟨b, r, e1, e2, e3⟩ := digits_head v.toNat (by omega)
            rw [e1] at e; simp at e; subst e; simp at e2
        rw [if_neg (by rintro (h | h | h); · rw [hl] at h; omega
                       · omega
                       · exact h48 h), hl, decFrom_digits]
        simp only [Option.map_some, Option.some.injEq]
        rw [if_neg (by omega)]
        omega
    · cases h
  · obtain ⟨h1, h2, h3⟩ := hfw v h
    unfold numP
    rw [h1]
    simp only [h2, h3, decide_true, Bool.and_self]
  · obtain ⟨h1, _, _⟩ := hfw v h
    unfold numV
    rw [h1]
end Go.Proofs.YtabmhfmglhjmjaaGreatDoor
set_option linter.unusedVariables false
set_option linter.unusedSimpArgs false
namespace Go.Proofs.YtabmhfmglhjmjaaGreatDoor
open Go Go.Lib
def preL (p : List UInt8) : List (List UInt8) → List (List UInt8)
  | [] => [p]
  | x :: q => (p ++ x) :: q
def cutL (c : UInt8) : List UInt8 → List (List UInt8)
  | [] => [[]]
  | b :: r => if b = c then [] :: cutL c r else preL [b] (cutL c r)
theorem preL_ne (p : List UInt8) (l : List (List UInt8)) : preL p l ≠ [] := by cases l <;> simp [preL]
theorem cutL_ne (c : UInt8) (l : List UInt8) : cutL c l ≠ [] := by
  cases l with
  | nil => simp [cutL]
  | cons b r =>
    rw [cutL]
    split
    · simp
    · exact preL_ne _ _
theorem index_cons (b c : UInt8) (l : List UInt8) (h : b ≠ c) : index (b :: l) [c] = if index l [c] == -1 then -1 else index l [c] + 1 := by
  have hp : ([c] : List UInt8).isPrefixOf (b :: l) = false := by simp [List.isPrefixOf, Ne.symm h]
  rw [index, hp]; simp
theorem split_cut (c : UInt8) : ∀ s : List UInt8, split s [c] = cutL c s
  | [] => by
    unfold split
    rw [count_miss (by simp [index])]
    rfl
  | b :: l => by
    have ih := split_cut c l
    unfold split at ih ⊢
    by_cases h : b = c
    · subst h
      have hix : index (b :: l) [b] = ((0 : Nat) : Int) := by rw [index]; simp [List.isPrefixOf]
      rw [count_cons_eq, Nat.add_comm 1, splitK, if_neg (by rw [hix]; decide), hix, cutL, if_pos rfl, ← ih]
      rfl
    · rw [count_cons_ne b c l h, cutL, if_neg h, ← ih]
      have hix := index_cons b c l h
      by_cases hm : index l [c] = -1
      · rw [count_miss hm]; rfl
      · have hge := index_ge l [c]
        obtain ⟨j, hj⟩ : ∃ j : Nat, index l [c] = j := ⟨(index l [c]).toNat, by omega⟩
        have hix' : index (b :: l) [c] = ((j + 1 : Nat) : Int) := by rw [hix, if_neg (fun e => hm (beq_iff_eq.1 e)), hj]; omega
        rw [count_hit (by simp) hj, Nat.add_comm 1, splitK, splitK, if_neg (by rw [hix']; simp; omega), if_neg (by rw [hj]; simp), hix', hj]
        simp [preL]
theorem splitB_cut (c : UInt8) (s : ByteArray) : splitB ⟨#[c]⟩ 0 (countB s ⟨#[c]⟩) s = (cutL c s.data.toList).map fun l => ⟨l.toArray⟩ := by
  have h := splitB_data ⟨#[c]⟩ 0 (countB s ⟨#[c]⟩) s
  have h2 : splitK (⟨#[c]⟩ : ByteArray).data.toList 0 (countB s ⟨#[c]⟩) s.data.toList = split s.data.toList [c] := rfl
  rw [h2, split_cut] at h
  rw [← h, List.map_map]
  conv => lhs; rw [← List.map_id (splitB _ _ _ _)]
  exact List.map_congr_left fun x _ => rfl
end Go.Proofs.YtabmhfmglhjmjaaGreatDoor

import Derived.Test.YtbobgnkohnbonaaC7
import Derived.Test.YtbobgnkohnbonaaS05
set_option maxRecDepth 100000
set_option maxHeartbeats 4000000
set_option linter.unusedSimpArgs false
set_option linter.unusedVariables false
namespace Go.Proofs.Ytbobgnkohnbonaa
open Go.Ab Go.RowKit
theorem ent_row1 {σ : St} {fr : List (Nat × AV)} {n : Nat × Nat × Nat} {r nx : Nat} {c : List AV} (hs : slotsE σ.fr fr) (hn : n = σ.n) (hc : σ.hp r = some c) (hx : σ.nx ≤ nx) (hr : r < nx) : Ent σ ⟨fr, hset emp r (some c), nx, n⟩ := by
  refine ent_eq_hp hs hn (fun k c' hk => ?_) hx (fun k hk => ?_)
  · dsimp only at hk
    rw [hset'] at hk
    by_cases e : r = k
    · subst e; rw [beq_self_eq_true] at hk; cases hk; exact hc
    · rw [show (r == k) = false by simpa using e] at hk; cases hk
  · have hk' : nx ≤ k := hk
    show hset emp r (some c) k = none
    rw [hset', show (r == k) = false by simp; omega]; rfl
theorem ent_row0 {σ : St} {fr : List (Nat × AV)} {n : Nat × Nat × Nat} {nx : Nat} (hs : slotsE σ.fr fr) (hn : n = σ.n) (hx : σ.nx ≤ nx) : Ent σ ⟨fr, emp, nx, n⟩ :=
  ent_eq_hp hs hn (fun k c' hk => by cases hk) hx (fun k hk => rfl)
abbrev ruleA (k w t j m p : Int) : List AV := [iv k, iv w, iv t, iv j, iv m, iv p]
def runA (r : Run) : AV := .ag [iv r.lo, iv r.hi, iv r.pk, iv r.dv]
def ysR (L : List Run) (t : Nat) : Option (List AV) := match L[t]? with
  | some r => some [runA r]
  | none => none
theorem splice41 (a b c d x : AV) : splice [a, b, c, d] 1 [x] = [a, x, c, d] := rfl
theorem splice42 (a b c d x : AV) : splice [a, b, c, d] 2 [x] = [a, b, x, d] := rfl
theorem splice43 (a b c d x : AV) : splice [a, b, c, d] 3 [x] = [a, b, c, x] := rfl
def stRuns (y : Yd) (C : List AV) (ds : List Int) (rs : List Run) (i nx k : Nat) : St :=
  match rs with
  | [] => ⟨[(0, .v (.func (.yield y.l) #[] #[])), (1, .pt C 0), (9, isl ds), (10, iv ds.length), (11, iv i), (4, .v (.pointer none))], emp, nx, (75, 0, 0)⟩
  | r :: l => ⟨[(0, .v (.func (.yield y.l) #[] #[])), (1, .pt C 0), (9, isl ds), (10, iv ds.length), (11, iv i), (4, .lp k 0)], hset emp k (some [iv r.lo, iv r.hi, iv r.pk, iv r.dv]), nx, (75, 0, l.length)⟩
theorem gi_devs {k w : Int} {xs : List Int} {i : Nat} (hi : i < xs.length) : gi (devs k w xs) i = dev k w xs i := by
  rw [gi_some (by rw [devs_length]; exact hi)]; simp [devs]
theorem it_runs (k w t j m p : Int) (xs : List Int) (h0 : rulesErr k w t j m p = 0) (hl : Len xs.length) (hx : areSamples xs = true) :
    IterC Try.prog 131 [.pt (ruleA k w t j m p) 0, .pt [isl xs] 0] (ysR (runs t j (fun i => gi (devs k w xs) i) xs.length)) (runs t j (fun i => gi (devs k w xs) i) xs.length).length := by
  refine iter_intro evOk [39, 47, 74] Try.func131 rfl Try.call131 (fun y hy => ?_)
  unfold Len at hl
  obtain ⟨r1, r2, r3, r4, r5, r6⟩ := rulesErr_zero h0
  have hf : ∀ i : Nat, i < xs.length → 0 ≤ gi (devs k w xs) i ∧ gi (devs k w xs) i ≤ 131068 := fun i hi => by rw [gi_devs hi]; exact dev_bound hx i
  have hlen := devs_length k w xs
  generalize hds : devs k w xs = ds at *
  repeat' first
   | refine v_seq ?_ | refine v_block ?_ | refine v_ret ?_ | refine v_skip ?_ | (refine v_exit ?_; repeat' first | refine xB_eq ?_ | refine xB_ne rfl ?_)
   | ((first | refine v_region (evOk.withY y) (fun K hK => ?_) | refine v_draw' (evOk.withY y) rfl (fun K hK => ?_) | refine v_drawF (evOk.withY y) rfl rfl (fun K hK => ?_)); simp only [go_sem,simprocAttr,hds])
   | (simp (disch := first | omega | rfl | (simp only [lnn]; omega)) only [spl])
   | (refine hK _ ?_; clear hK K)
   | (refine gdB_intro (fun h => ?_) (fun h => ?_) <;> simp only [go_sem,simprocAttr,h,hds] <;> (have h' := h; try simp only [bl] at h'))
   | (refine v_cond rfl (fun h => ?_) (fun h => ?_) <;> first | (exact Bool.noConfusion h) | (have h' := h; try simp only [bl] at h'))
   | (refine r_ret ?_; simp only [resL, resA, Try.f131, lk_cons', lk_nil', Nat.reduceBEq]; first | exact ⟨rfl, Sb.nil _, rfl⟩ | refine ⟨rfl, sbt ?_, rfl⟩ | refine ⟨rfl, Sb.of_eq ?_, rfl⟩)
   | (refine And.intro (by first | exact True.intro | omega | rfl | exact Nat.le_of_ble_eq_true rfl | (simp only [lnn]; omega) | exact List.forall_mem_nil _ | (refine List.forall_mem_cons.2 ⟨⟨_, rfl⟩, ?_⟩; repeat' first | exact List.forall_mem_nil _ | refine List.forall_mem_cons.2 ⟨⟨_, rfl⟩, ?_⟩)) ?_)
   | ((first | refine call_pure' (c_deviations _ _ _ _ _ _ _ (fun h => ⟨by have := r1 h; omega, (r1 h).2⟩) hl hx) rfl ?_); simp only [go_sem,simprocAttr,hds])
   | fail
  refine v_loop (T := Nat × Nat × Nat) (fun x => stRuns y (ruleA k w t j m p) ds (runsR t j (fun i => gi ds i) x.1) x.1 x.2.1 x.2.2) (fun x => x.1 ≤ xs.length ∧ x.2.2 < x.2.1) (fun x => xs.length - x.1) (0, 1, 0) ⟨by omega, by dsimp only; omega⟩ (ent_row0 (by (repeat' first | exact trivial | refine ⟨?_, ?_⟩ | rfl)) rfl (by dsimp only; omega)) ?_
  rintro ⟨i, nx, q⟩ ⟨h1, h2⟩
  dsimp only at h1 h2 ⊢
  have hok := runsR_ok (thr := t) (jn := j) (f := fun i => gi ds i) (c := 131068) i (fun i' hi' => hf i' (by omega))
  cases hr : runsR t j (fun i => gi ds i) i with
  | nil =>
    simp only [stRuns]
    repeat' first
     | refine v_seq ?_ | refine v_block ?_ | refine v_ret ?_ | refine v_skip ?_ | (refine v_exit ?_; repeat' first | refine xB_eq ?_ | refine xB_ne rfl ?_)
     | ((first | refine v_region (evOk.withY y) (fun K hK => ?_) | refine v_draw' (evOk.withY y) rfl (fun K hK => ?_) | refine v_drawF (evOk.withY y) rfl rfl (fun K hK => ?_)); simp only [go_sem,simprocAttr,splice41,splice42,splice43])
     | (simp (disch := first | omega | rfl | (simp only [lnn]; omega)) only [spl])
     | (refine hK _ ?_; clear hK K)
     | (refine gdB_intro (fun h => ?_) (fun h => ?_) <;> simp only [go_sem,simprocAttr,h,splice41,splice42,splice43] <;> (have h' := h; try simp only [bl] at h'))
     | (refine v_cond rfl (fun h => ?_) (fun h => ?_) <;> first | (exact Bool.noConfusion h) | (have h' := h; try simp only [bl] at h'))
     | (refine r_ret ?_; simp only [resL, resA, Try.f131, lk_cons', lk_nil', Nat.reduceBEq]; first | exact ⟨rfl, Sb.nil _, rfl⟩ | refine ⟨rfl, sbt ?_, rfl⟩ | refine ⟨rfl, Sb.of_eq ?_, rfl⟩)
     | (refine And.intro (by first | exact True.intro | omega | rfl | exact Nat.le_of_ble_eq_true rfl | (simp only [lnn]; omega) | exact List.forall_mem_nil _ | (refine List.forall_mem_cons.2 ⟨⟨_, rfl⟩, ?_⟩; repeat' first | exact List.forall_mem_nil _ | refine List.forall_mem_cons.2 ⟨⟨_, rfl⟩, ?_⟩)) ?_)
     | fail
    · have e := runsR_succ hr (stepR_skip h)
      refine ⟨(i + 1, nx, q), ?_, ⟨by dsimp only; omega, by dsimp only; omega⟩, by dsimp only; omega⟩
      simp only [e, stRuns]
      exact ent_row0 (by (repeat' first | exact trivial | refine ⟨?_, ?_⟩ | rfl)) rfl (by (first | omega | (dsimp only; omega)))
    · have e := runsR_succ hr (stepR_nil (by assumption))
      refine ⟨(i + 1, nx + 1, nx), ?_, ⟨by dsimp only; omega, by dsimp only; omega⟩, by dsimp only; omega⟩
      simp only [e, stRuns]
      exact ent_row1 (by (repeat' first | exact trivial | refine ⟨?_, ?_⟩ | rfl)) rfl (by (simp only [hset', beq_self_eq_true] <;> rfl)) (by (first | omega | (dsimp only; omega))) (by (first | omega | (dsimp only; omega)))
    · exfalso; omega
    · have : i = xs.length := by omega
      subst this
      refine ⟨?_, True.intro⟩
      unfold runs; rw [hr]; rfl
  | cons r l =>
    obtain ⟨a, b, c, d⟩ := r
    have hro := hok ⟨a, b, c, d⟩ (by rw [hr]; simp)
    unfold RunOk at hro
    dsimp only at hro
    simp only [stRuns]
    repeat' first
     | refine v_seq ?_ | refine v_block ?_ | refine v_ret ?_ | refine v_skip ?_ | (refine v_exit ?_; repeat' first | refine xB_eq ?_ | refine xB_ne rfl ?_)
     | ((first | refine v_region (evOk.withY y) (fun K hK => ?_) | refine v_draw' (evOk.withY y) rfl (fun K hK => ?_) | refine v_drawF (evOk.withY y) rfl rfl (fun K hK => ?_)); simp only [go_sem,simprocAttr,splice41,splice42,splice43])
     | (simp (disch := first | omega | rfl | (simp only [lnn]; omega)) only [spl])
     | (refine hK _ ?_; clear hK K)
     | (refine gdB_intro (fun h => ?_) (fun h => ?_) <;> simp only [go_sem,simprocAttr,h,splice41,splice42,splice43] <;> (have h' := h; try simp only [bl] at h'))
     | (refine v_cond rfl (fun h => ?_) (fun h => ?_) <;> first | (exact Bool.noConfusion h) | (have h' := h; try simp only [bl] at h'))
     | (refine r_ret ?_; simp only [resL, resA, Try.f131, lk_cons', lk_nil', Nat.reduceBEq]; first | exact ⟨rfl, Sb.nil _, rfl⟩ | refine ⟨rfl, sbt ?_, rfl⟩ | refine ⟨rfl, Sb.of_eq ?_, rfl⟩)
     | (refine And.intro (by first | exact True.intro | omega | rfl | exact Nat.le_of_ble_eq_true rfl | (simp only [lnn]; omega) | exact List.forall_mem_nil _ | (refine List.forall_mem_cons.2 ⟨⟨_, rfl⟩, ?_⟩; repeat' first | exact List.forall_mem_nil _ | refine List.forall_mem_cons.2 ⟨⟨_, rfl⟩, ?_⟩)) ?_)
     | (refine And.intro (by rw [hy]; have e := runsR_succ hr (stepR_new (r := ⟨a, b, c, d⟩) (by assumption) (by assumption)); unfold ysR; rw [closed_at (by omega) hr e]; rfl) ?_)
     | (refine And.intro (by rw [hy]; have e : i = xs.length := (by omega); subst e; unfold ysR; rw [last_at hr]; rfl) ?_)
     | fail
    · have e := runsR_succ hr (stepR_skip h)
      refine ⟨(i + 1, nx, q), ?_, ⟨by dsimp only; omega, by dsimp only; omega⟩, by dsimp only; omega⟩
      simp only [e, stRuns]
      exact ent_row1 (by (repeat' first | exact trivial | refine ⟨?_, ?_⟩ | rfl)) rfl (by (simp only [hset', beq_self_eq_true] <;> rfl)) (by (first | omega | (dsimp only; omega))) (by (first | omega | (dsimp only; omega)))
    · have e := runsR_succ hr (stepR_new (by assumption) (by assumption))
      refine ⟨(i + 1, nx + 1, nx), ?_, ⟨by dsimp only; omega, by dsimp only; omega⟩, by dsimp only; omega⟩
      simp only [e, stRuns]
      exact ent_row1 (by (repeat' first | exact trivial | refine ⟨?_, ?_⟩ | rfl)) rfl (by (simp only [hset', beq_self_eq_true] <;> rfl)) (by (first | omega | (dsimp only; omega))) (by (first | omega | (dsimp only; omega)))
    · exfalso; omega
    · have e := runsR_succ hr (stepR_peak (by assumption) (by assumption) (by assumption))
      refine ⟨(i + 1, nx, q), ?_, ⟨by dsimp only; omega, by dsimp only; omega⟩, by dsimp only; omega⟩
      simp only [e, stRuns]
      exact ent_row1 (by (repeat' first | exact trivial | refine ⟨?_, ?_⟩ | rfl)) rfl (by (simp only [hset', beq_self_eq_true] <;> rfl)) (by (first | omega | (dsimp only; omega))) (by (first | omega | (dsimp only; omega)))
    · have e := runsR_succ hr (stepR_old (by assumption) (by assumption) (by assumption))
      refine ⟨(i + 1, nx, q), ?_, ⟨by dsimp only; omega, by dsimp only; omega⟩, by dsimp only; omega⟩
      simp only [e, stRuns]
      exact ent_row1 (by (repeat' first | exact trivial | refine ⟨?_, ?_⟩ | rfl)) rfl (by (simp only [hset', beq_self_eq_true] <;> rfl)) (by (first | omega | (dsimp only; omega))) (by (first | omega | (dsimp only; omega)))
    · have : i = xs.length := by omega
      subst this
      refine ⟨?_, True.intro⟩
      unfold runs; rw [hr]; simp only [List.length_reverse, List.length_cons]
end Go.Proofs.Ytbobgnkohnbonaa

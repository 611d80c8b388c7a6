/- Parts of the proof, put together by a program. -/
import Derived.Test.YtabmhfmglhjmjaaGreatDoorUah
set_option maxRecDepth 100000
set_option maxHeartbeats 4000000
set_option linter.unusedSimpArgs false
set_option linter.unusedVariables false
set_option linter.unusedSectionVars false
namespace Go.Proofs.YtabmhfmglhjmjaaGreatDoor
open Go.Ab Go.RowKit
variable [Dr]
theorem c_isNaNS (s : ByteArray) : Pure Tryz.prog 147 [.v (.string s)] (.v (.bool false)) := by
  refine p_intro evOk [] Tryz.func147 rfl Tryz.call147 ?_
  repeat' first
   | refine v_seq ?_ | refine v_block ?_ | refine v_ret ?_ | refine v_skip ?_ | (refine v_exit ?_; repeat' first | refine xB_eq ?_ | refine xB_ne rfl ?_)
   | ((first | refine rgA fun K hK => ?_ | refine rgB rfl fun K hK => ?_ | refine rgC rfl fun K hK => ?_); simp only [go_sem,simprocAttr])
   | (simp (disch := first | omega | rfl | (simp only [lnn]; omega)) only [spl])
   | (refine hK _ ?_; clear hK K)
   | (refine gdB_intro (fun h => ?_) (fun h => ?_) <;> simp only [go_sem,simprocAttr,h] <;> (have h' := h; try simp only [bl] at h'))
   | (refine v_cond rfl (fun h => ?_) (fun h => ?_) <;> first | (exact Bool.noConfusion h) | (have h' := h; try simp only [bl] at h'))
   | (refine r_ret ?_; simp only [resL, resA, Tryz.f147, lk_cons', lk_nil', Nat.reduceBEq]; first | exact ⟨rfl, Sb.nil _, rfl⟩ | refine ⟨rfl, sbt ?_, rfl⟩ | refine ⟨rfl, Sb.of_eq ?_, rfl⟩)
   | (refine And.intro (by first | exact True.intro | omega | rfl | exact Nat.le_of_ble_eq_true rfl | (simp only [lnn]; omega) | exact List.forall_mem_nil _ | (refine List.forall_mem_cons.2 ⟨⟨_, rfl⟩, ?_⟩; repeat' first | exact List.forall_mem_nil _ | refine List.forall_mem_cons.2 ⟨⟨_, rfl⟩, ?_⟩)) ?_)
   | fail
def cmpS (a b : ByteArray) : Int := bif nmLt a b then -1 else bif nmLt b a then 1 else 0
theorem nm_gtr (a b : ByteArray) : (!(Op.bytesLess a.toList b.toList || a.toList == b.toList)) = nmLt b a := by
  change (!(nmLt a b || nmEq a b)) = nmLt b a
  cases h1 : nmLt a b
  · cases h2 : nmEq a b
    · cases h3 : nmLt b a
      · exact absurd (nmLt_tri h1 h3) (nmEq_false.1 h2)
      · rfl
    · have := nmEq_iff.1 h2
      subst this
      rw [h1]; rfl
  · rw [nmLt_asymm h1]; rfl
theorem c_CompareS (a b : ByteArray) : Pure Tryz.prog 99 [.v (.string a), .v (.string b)] (iv (cmpS a b)) := by
  have hg := nm_gtr a b
  have hl : Op.bytesLess a.toList b.toList = nmLt a b := rfl
  unfold cmpS
  cases h1 : nmLt a b
  · rw [h1] at hl
    rw [hl, Bool.false_or] at hg
    have hq : (a.toList == b.toList) = !nmLt b a := by rw [← hg, Bool.not_not]
    cases h2 : nmLt b a
    all_goals
      rw [h2] at hq
      refine p_intro evOk [] Tryz.func99 rfl Tryz.call99 ?_
      repeat' first
       | refine v_seq ?_ | refine v_block ?_ | refine v_ret ?_ | refine v_skip ?_ | (refine v_exit ?_; repeat' first | refine xB_eq ?_ | refine xB_ne rfl ?_)
       | ((first | refine rgA fun K hK => ?_ | refine rgB rfl fun K hK => ?_ | refine rgC rfl fun K hK => ?_); simp only [go_sem,simprocAttr,hl,hq])
       | (simp (disch := first | omega | rfl | (simp only [lnn]; omega)) only [spl])
       | (refine hK _ ?_; clear hK K)
       | (refine gdB_intro (fun h => ?_) (fun h => ?_) <;> simp only [go_sem,simprocAttr,h,hl,hq] <;> (have h' := h; try simp only [bl] at h'))
       | (refine v_cond rfl (fun h => ?_) (fun h => ?_) <;> first | (exact Bool.noConfusion h) | (have h' := h; try simp only [bl] at h'))
       | (refine r_ret ?_; simp only [resL, resA, Tryz.f99, lk_cons', lk_nil', Nat.reduceBEq]; first | exact ⟨rfl, Sb.nil _, rfl⟩ | refine ⟨rfl, sbt ?_, rfl⟩ | refine ⟨rfl, Sb.of_eq ?_, rfl⟩)
       | (refine And.intro (by first | exact True.intro | omega | rfl | exact Nat.le_of_ble_eq_true rfl | (simp only [lnn]; omega) | exact List.forall_mem_nil _ | (refine List.forall_mem_cons.2 ⟨⟨_, rfl⟩, ?_⟩; repeat' first | exact List.forall_mem_nil _ | refine List.forall_mem_cons.2 ⟨⟨_, rfl⟩, ?_⟩)) ?_)
       | ((first | refine call_pure' (c_isNaNS _) rfl ?_); simp only [go_sem,simprocAttr,hl,hq])
       | fail
      all_goals rfl
  · rw [h1] at hl
    refine p_intro evOk [] Tryz.func99 rfl Tryz.call99 ?_
    repeat' first
     | refine v_seq ?_ | refine v_block ?_ | refine v_ret ?_ | refine v_skip ?_ | (refine v_exit ?_; repeat' first | refine xB_eq ?_ | refine xB_ne rfl ?_)
     | ((first | refine rgA fun K hK => ?_ | refine rgB rfl fun K hK => ?_ | refine rgC rfl fun K hK => ?_); simp only [go_sem,simprocAttr,hl])
     | (simp (disch := first | omega | rfl | (simp only [lnn]; omega)) only [spl])
     | (refine hK _ ?_; clear hK K)
     | (refine gdB_intro (fun h => ?_) (fun h => ?_) <;> simp only [go_sem,simprocAttr,h,hl] <;> (have h' := h; try simp only [bl] at h'))
     | (refine v_cond rfl (fun h => ?_) (fun h => ?_) <;> first | (exact Bool.noConfusion h) | (have h' := h; try simp only [bl] at h'))
     | (refine r_ret ?_; simp only [resL, resA, Tryz.f99, lk_cons', lk_nil', Nat.reduceBEq]; first | exact ⟨rfl, Sb.nil _, rfl⟩ | refine ⟨rfl, sbt ?_, rfl⟩ | refine ⟨rfl, Sb.of_eq ?_, rfl⟩)
     | (refine And.intro (by first | exact True.intro | omega | rfl | exact Nat.le_of_ble_eq_true rfl | (simp only [lnn]; omega) | exact List.forall_mem_nil _ | (refine List.forall_mem_cons.2 ⟨⟨_, rfl⟩, ?_⟩; repeat' first | exact List.forall_mem_nil _ | refine List.forall_mem_cons.2 ⟨⟨_, rfl⟩, ?_⟩)) ?_)
     | ((first | refine call_pure' (c_isNaNS _) rfl ?_); simp only [go_sem,simprocAttr,hl])
     | fail
    all_goals rfl
theorem c_change (ts : List Tf) (n g c : Int) (G m : Nat) (i j : Nat) : Pure Tryz.prog 100 [tkX ts n g c G m, iv i, iv j] (iv (chg c i j)) := by
  unfold tkX chg
  have hij : ((i : Int) == (j : Int)) = (i == j) := by
    by_cases h : i = j
    · subst h; simp
    · rw [beq_ne h, beq_eq_false_iff_ne]; omega
  cases h : i == j
  all_goals
    rw [h] at hij
    refine p_intro evOk [] Tryz.func100 rfl Tryz.call100 ?_
    repeat' first
     | refine v_seq ?_ | refine v_block ?_ | refine v_ret ?_ | refine v_skip ?_ | (refine v_exit ?_; repeat' first | refine xB_eq ?_ | refine xB_ne rfl ?_)
     | ((first | refine rgA fun K hK => ?_ | refine rgB rfl fun K hK => ?_ | refine rgC rfl fun K hK => ?_); simp only [go_sem,simprocAttr,hij])
     | (simp (disch := first | omega | rfl | (simp only [lnn]; omega)) only [spl])
     | (refine hK _ ?_; clear hK K)
     | (refine gdB_intro (fun h => ?_) (fun h => ?_) <;> simp only [go_sem,simprocAttr,h,hij] <;> (have h' := h; try simp only [bl] at h'))
     | (refine v_cond rfl (fun h => ?_) (fun h => ?_) <;> first | (exact Bool.noConfusion h) | (have h' := h; try simp only [bl] at h'))
     | (refine r_ret ?_; simp only [resL, resA, Tryz.f100, lk_cons', lk_nil', Nat.reduceBEq]; first | exact ⟨rfl, Sb.nil _, rfl⟩ | refine ⟨rfl, sbt ?_, rfl⟩ | refine ⟨rfl, Sb.of_eq ?_, rfl⟩)
     | (refine And.intro (by first | exact True.intro | omega | rfl | exact Nat.le_of_ble_eq_true rfl | (simp only [lnn]; omega) | exact List.forall_mem_nil _ | (refine List.forall_mem_cons.2 ⟨⟨_, rfl⟩, ?_⟩; repeat' first | exact List.forall_mem_nil _ | refine List.forall_mem_cons.2 ⟨⟨_, rfl⟩, ?_⟩)) ?_)
     | fail
    all_goals rfl
def ysC (L : List Int) (t : Nat) : Option (List AV) := (L[t]?).map fun v => [iv v]
def bL (L : List Int) : Int := L.foldl (fun o n => bif o == -1 || decide (n < o) then n else o) (-1)
theorem bL_snoc (L : List Int) (v : Int) : bL (L ++ [v]) = bif bL L == -1 || decide (v < bL L) then v else bL L := by
  unfold bL
  rw [List.foldl_append]
  rfl
def costsTo (row : List Int) (f : Nat → Int) : Nat → List Int
  | 0 => []
  | k + 1 => bif gi row k != -1 then costsTo row f k ++ [f k] else costsTo row f k
theorem bL_costs (row : List Int) (f : Nat → Int) : ∀ n, bL (costsTo row f n) = bestN (fun k => gi row k != -1) f n
  | 0 => rfl
  | n + 1 => by
    have ih := bL_costs row f n
    rw [costsTo, bestN]
    cases gi row n != -1
    · rw [cond_false, Bool.false_and, cond_false, ih]
    · rw [cond_true, Bool.true_and, bL_snoc, ih]
theorem costsTo_pre (row : List Int) (f : Nat → Int) {k : Nat} : ∀ n, k ≤ n → (costsTo row f k) <+: (costsTo row f n)
  | 0, h => by obtain rfl : k = 0 := by omega
               exact List.prefix_refl _
  | n + 1, h => by
    by_cases e : k = n + 1
    · subst e; exact List.prefix_refl _
    · have := costsTo_pre row f (k := k) n (by omega)
      rw [costsTo]
      cases gi row n != -1
      · exact this
      · exact this.trans (List.prefix_append _ _)
theorem costsTo_at {row : List Int} {f : Nat → Int} {k n : Nat} (hk : k < n) (h : (gi row k != -1) = true) : (costsTo row f n)[(costsTo row f k).length]? = some (f k) := by
  have hp := costsTo_pre row f (k := k + 1) n (by omega)
  rw [costsTo, h, cond_true] at hp
  obtain ⟨t, ht⟩ := hp
  rw [← ht, List.append_assoc]
  simp
theorem c_best (L : List Int) (fid : Nat) (caps : List AV) (hp : plainL caps = true) (hit : IterC Tryz.prog fid caps (ysC L) L.length) : Pure Tryz.prog 95 [.fn (.func fid) [] caps] (iv (bL L)) := by
  refine p_intro evOk [3] Tryz.func95 rfl Tryz.call95 ?_
  repeat' first
   | refine v_seq ?_ | refine v_block ?_ | refine v_ret ?_ | refine v_skip ?_ | (refine v_exit ?_; repeat' first | refine xB_eq ?_ | refine xB_ne rfl ?_)
   | ((first | refine rgA fun K hK => ?_ | refine rgB rfl fun K hK => ?_ | refine rgC rfl fun K hK => ?_); simp only [go_sem,simprocAttr])
   | (simp (disch := first | omega | rfl | (simp only [lnn]; omega)) only [spl])
   | (refine hK _ ?_; clear hK K)
   | (refine gdB_intro (fun h => ?_) (fun h => ?_) <;> simp only [go_sem,simprocAttr,h] <;> (have h' := h; try simp only [bl] at h'))
   | (refine v_cond rfl (fun h => ?_) (fun h => ?_) <;> first | (exact Bool.noConfusion h) | (have h' := h; try simp only [bl] at h'))
   | (refine r_ret ?_; simp only [resL, resA, Tryz.f95, lk_cons', lk_nil', Nat.reduceBEq]; first | exact ⟨rfl, Sb.nil _, rfl⟩ | refine ⟨rfl, sbt ?_, rfl⟩ | refine ⟨rfl, Sb.of_eq ?_, rfl⟩)
   | (refine And.intro (by first | exact True.intro | omega | rfl | exact Nat.le_of_ble_eq_true rfl | (simp only [lnn]; omega) | exact List.forall_mem_nil _ | (refine List.forall_mem_cons.2 ⟨⟨_, rfl⟩, ?_⟩; repeat' first | exact List.forall_mem_nil _ | refine List.forall_mem_cons.2 ⟨⟨_, rfl⟩, ?_⟩)) ?_)
   | fail
  refine v_range evOk (fun t => hset emp 0 (some [iv (bL (L.take t))])) (fun _ => 1) rfl (SbL.refl _) hp hit ?_ rfl ?_ ?_ ?_ ?_
  · funext k; cases k with
    | zero => rfl
    | succ k => rfl
  · intro t avs h
    unfold ysC at h
    rw [Option.map_eq_some_iff] at h
    obtain ⟨v, _, rfl⟩ := h
    rfl
  · intro p hp
    have : p = 6 := by simpa using hp
    subst this; exact Nat.le_of_ble_eq_true rfl
  · intro t avs l h
    unfold ysC at h
    rw [Option.map_eq_some_iff] at h
    obtain ⟨v, hv, rfl⟩ := h
    have ht := (List.getElem?_eq_some_iff.1 hv).1
    have htk : L.take (t + 1) = L.take t ++ [v] := by rw [List.take_add_one, hv]; rfl
    have hb := bL_snoc (L.take t) v
    rw [htk, hb]
    cases h1 : bL (L.take t) == -1 <;> cases h2 : decide (v < bL (L.take t))
    all_goals
      simp only [Bool.or_true, Bool.true_or, Bool.or_false, Bool.false_or, cond_true, cond_false]
      repeat' first
       | refine v_seq ?_ | refine v_block ?_ | refine v_ret ?_ | refine v_skip ?_ | (refine v_exit ?_; repeat' first | refine xB_eq ?_ | refine xB_ne rfl ?_)
       | ((first | refine v_region (evOk.inR l) (fun K hK => ?_) | refine v_draw' (evOk.inR l) rfl (fun K hK => ?_) | refine v_drawF (evOk.inR l) rfl rfl (fun K hK => ?_)); simp only [go_sem,simprocAttr,h1,h2,putL,hset_at,hset_hset])
       | (simp (disch := first | omega | rfl | (simp only [lnn]; omega)) only [spl])
       | (refine hK _ ?_; clear hK K)
       | (refine gdB_intro (fun h => ?_) (fun h => ?_) <;> simp only [go_sem,simprocAttr,h,h1,h2,putL,hset_at,hset_hset] <;> (have h' := h; try simp only [bl] at h'))
       | (refine v_cond rfl (fun h => ?_) (fun h => ?_) <;> first | (exact Bool.noConfusion h) | (have h' := h; try simp only [bl] at h'))
       | (refine r_ret ?_; simp only [resL, resA, Tryz.f95, lk_cons', lk_nil', Nat.reduceBEq]; first | exact ⟨rfl, Sb.nil _, rfl⟩ | refine ⟨rfl, sbt ?_, rfl⟩ | refine ⟨rfl, Sb.of_eq ?_, rfl⟩)
       | (refine And.intro (by first | exact True.intro | omega | rfl | exact Nat.le_of_ble_eq_true rfl | (simp only [lnn]; omega) | exact List.forall_mem_nil _ | (refine List.forall_mem_cons.2 ⟨⟨_, rfl⟩, ?_⟩; repeat' first | exact List.forall_mem_nil _ | refine List.forall_mem_cons.2 ⟨⟨_, rfl⟩, ?_⟩)) ?_)
       | fail
      all_goals exact ⟨_, Ent.refl _, rfl, rfl⟩
  · repeat' first
     | refine v_seq ?_ | refine v_block ?_ | refine v_ret ?_ | refine v_skip ?_ | (refine v_exit ?_; repeat' first | refine xB_eq ?_ | refine xB_ne rfl ?_)
     | ((first | refine rgA fun K hK => ?_ | refine rgB rfl fun K hK => ?_ | refine rgC rfl fun K hK => ?_); simp only [go_sem,simprocAttr,hset_at,List.take_length])
     | (simp (disch := first | omega | rfl | (simp only [lnn]; omega)) only [spl])
     | (refine hK _ ?_; clear hK K)
     | (refine gdB_intro (fun h => ?_) (fun h => ?_) <;> simp only [go_sem,simprocAttr,h,hset_at,List.take_length] <;> (have h' := h; try simp only [bl] at h'))
     | (refine v_cond rfl (fun h => ?_) (fun h => ?_) <;> first | (exact Bool.noConfusion h) | (have h' := h; try simp only [bl] at h'))
     | (refine r_ret ?_; simp only [resL, resA, Tryz.f95, lk_cons', lk_nil', Nat.reduceBEq]; first | exact ⟨rfl, Sb.nil _, rfl⟩ | refine ⟨rfl, sbt ?_, rfl⟩ | refine ⟨rfl, Sb.of_eq ?_, rfl⟩)
     | (refine And.intro (by first | exact True.intro | omega | rfl | exact Nat.le_of_ble_eq_true rfl | (simp only [lnn]; omega) | exact List.forall_mem_nil _ | (refine List.forall_mem_cons.2 ⟨⟨_, rfl⟩, ?_⟩; repeat' first | exact List.forall_mem_nil _ | refine List.forall_mem_cons.2 ⟨⟨_, rfl⟩, ?_⟩)) ?_)
     | fail
theorem it_after (ts : List Tf) (n g c : Int) (G m i : Nat) (row : List Int) (hc : 0 ≤ c ∧ c ≤ 1000000) (hl : row.length ≤ 6) (hr : ∀ k : Nat, -1 ≤ gi row k ∧ gi row k ≤ 500000000) :
    IterC Tryz.prog 174 [.pt [isl row] 0, .pt [tsl ts, iv n, iv g, iv c, .sl 1 m (devC ts G m)] 0, .pt [iv i] 0] (ysC (costsTo row (fun k => chg c i k + gi row k) row.length)) (costsTo row (fun k => chg c i k + gi row k) row.length).length := by
  refine iter_intro evOk [24] Tryz.func174 rfl Tryz.call174 (fun y hy han => ?_)
  repeat' first
   | refine v_seq ?_ | refine v_block ?_ | refine v_ret ?_ | refine v_skip ?_ | (refine v_exit ?_; repeat' first | refine xB_eq ?_ | refine xB_ne rfl ?_)
   | ((first | refine v_region (evOk.withY y) (fun K hK => ?_) | refine v_draw' (evOk.withY y) rfl (fun K hK => ?_) | refine v_drawF (evOk.withY y) rfl rfl (fun K hK => ?_)); simp only [go_sem,simprocAttr])
   | (simp (disch := first | omega | rfl | (simp only [lnn]; omega)) only [spl])
   | (refine hK _ ?_; clear hK K)
   | (refine gdB_intro (fun h => ?_) (fun h => ?_) <;> simp only [go_sem,simprocAttr,h] <;> (have h' := h; try simp only [bl] at h'))
   | (refine v_cond rfl (fun h => ?_) (fun h => ?_) <;> first | (exact Bool.noConfusion h) | (have h' := h; try simp only [bl] at h'))
   | (refine r_ret ?_; simp only [resL, resA, Tryz.f174, lk_cons', lk_nil', Nat.reduceBEq]; first | exact ⟨rfl, Sb.nil _, rfl⟩ | refine ⟨rfl, sbt ?_, rfl⟩ | refine ⟨rfl, Sb.of_eq ?_, rfl⟩)
   | (refine And.intro (by first | exact True.intro | omega | rfl | exact Nat.le_of_ble_eq_true rfl | (simp only [lnn]; omega) | exact List.forall_mem_nil _ | (refine List.forall_mem_cons.2 ⟨⟨_, rfl⟩, ?_⟩; repeat' first | exact List.forall_mem_nil _ | refine List.forall_mem_cons.2 ⟨⟨_, rfl⟩, ?_⟩)) ?_)
   | fail
  refine v_loop (T := Nat) (fun k => ⟨[(0, .v (.func (.yield y.l) #[] #[])), (2, .pt [tsl ts, iv n, iv g, iv c, .sl 1 m (devC ts G m)] 0), (3, .pt [iv i] 0), (7, isl row), (8, iv row.length), (9, iv k)], emp, 0, (28, 0, (costsTo row (fun k => chg c i k + gi row k) k).length)⟩) (fun k => k ≤ row.length) (fun k => row.length - k) 0 (by omega) (by (refine ent_eq ?_ rfl rfl rfl; repeat' first | exact trivial | refine ⟨?_, ?_⟩ | rfl)) ?_
  intro k hk
  have hcb := chg_bound hc.1 i k
  have hrk := hr k
  have kc := c_change ts n g c G m i k
  unfold tkX at kc
  have hsu : costsTo row (fun k => chg c i k + gi row k) (k + 1) = bif gi row k != -1 then costsTo row (fun k => chg c i k + gi row k) k ++ [chg c i k + gi row k] else costsTo row (fun k => chg c i k + gi row k) k := rfl
  by_cases hk2 : k < row.length
  · have hd : decide ((k : Int) < row.length) = true := decide_eq_true (by omega)
    cases hz : gi row k != -1
    · rw [hz, cond_false] at hsu
      repeat' first
       | refine v_seq ?_ | refine v_block ?_ | refine v_ret ?_ | refine v_skip ?_ | (refine v_exit ?_; repeat' first | refine xB_eq ?_ | refine xB_ne rfl ?_)
       | ((first | refine v_region (evOk.withY y) (fun K hK => ?_) | refine v_draw' (evOk.withY y) rfl (fun K hK => ?_) | refine v_drawF (evOk.withY y) rfl rfl (fun K hK => ?_)); simp only [go_sem,simprocAttr,hd,hz])
       | (simp (disch := first | omega | rfl | (simp only [lnn]; omega)) only [spl])
       | (refine hK _ ?_; clear hK K)
       | (refine gdB_intro (fun h => ?_) (fun h => ?_) <;> simp only [go_sem,simprocAttr,h,hd,hz] <;> (have h' := h; try simp only [bl] at h'))
       | (refine v_cond rfl (fun h => ?_) (fun h => ?_) <;> first | (exact Bool.noConfusion h) | (have h' := h; try simp only [bl] at h'))
       | (refine r_ret ?_; simp only [resL, resA, Tryz.f174, lk_cons', lk_nil', Nat.reduceBEq]; first | exact ⟨rfl, Sb.nil _, rfl⟩ | refine ⟨rfl, sbt ?_, rfl⟩ | refine ⟨rfl, Sb.of_eq ?_, rfl⟩)
       | (refine And.intro (by first | exact True.intro | omega | rfl | exact Nat.le_of_ble_eq_true rfl | (simp only [lnn]; omega) | exact List.forall_mem_nil _ | (refine List.forall_mem_cons.2 ⟨⟨_, rfl⟩, ?_⟩; repeat' first | exact List.forall_mem_nil _ | refine List.forall_mem_cons.2 ⟨⟨_, rfl⟩, ?_⟩)) ?_)
       | fail
      refine ⟨k + 1, ?_, by omega, by omega⟩
      rw [hsu]
      (refine ent_eq ?_ rfl rfl rfl; repeat' first | exact trivial | refine ⟨?_, ?_⟩ | rfl)
    · have hat := costsTo_at (f := fun k => chg c i k + gi row k) hk2 hz
      rw [hz, cond_true] at hsu
      repeat' first
       | refine v_seq ?_ | refine v_block ?_ | refine v_ret ?_ | refine v_skip ?_ | (refine v_exit ?_; repeat' first | refine xB_eq ?_ | refine xB_ne rfl ?_)
       | ((first | refine v_region (evOk.withY y) (fun K hK => ?_) | refine v_draw' (evOk.withY y) rfl (fun K hK => ?_) | refine v_drawF (evOk.withY y) rfl rfl (fun K hK => ?_)); simp only [go_sem,simprocAttr,hd,hz,han])
       | (simp (disch := first | omega | rfl | (simp only [lnn]; omega)) only [spl])
       | (refine hK _ ?_; clear hK K)
       | (refine gdB_intro (fun h => ?_) (fun h => ?_) <;> simp only [go_sem,simprocAttr,h,hd,hz,han] <;> (have h' := h; try simp only [bl] at h'))
       | (refine v_cond rfl (fun h => ?_) (fun h => ?_) <;> first | (exact Bool.noConfusion h) | (have h' := h; try simp only [bl] at h'))
       | (refine r_ret ?_; simp only [resL, resA, Tryz.f174, lk_cons', lk_nil', Nat.reduceBEq]; first | exact ⟨rfl, Sb.nil _, rfl⟩ | refine ⟨rfl, sbt ?_, rfl⟩ | refine ⟨rfl, Sb.of_eq ?_, rfl⟩)
       | (refine And.intro (by first | exact True.intro | omega | rfl | exact Nat.le_of_ble_eq_true rfl | (simp only [lnn]; omega) | exact List.forall_mem_nil _ | (refine List.forall_mem_cons.2 ⟨⟨_, rfl⟩, ?_⟩; repeat' first | exact List.forall_mem_nil _ | refine List.forall_mem_cons.2 ⟨⟨_, rfl⟩, ?_⟩)) ?_)
       | ((first | refine call_pure' (kc) rfl ?_); simp only [go_sem,simprocAttr,hd,hz,han])
       | (refine And.intro (by rw [hy]; unfold ysC; rw [hat]; rfl) ?_)
       | fail
      refine ⟨k + 1, ?_, by omega, by omega⟩
      rw [hsu, List.length_append, List.length_singleton]
      (refine ent_eq ?_ rfl rfl rfl; repeat' first | exact trivial | refine ⟨?_, ?_⟩ | rfl)
  · obtain rfl : k = row.length := by omega
    have hd : decide ((row.length : Int) < row.length) = false := decide_eq_false (by omega)
    repeat' first
     | refine v_seq ?_ | refine v_block ?_ | refine v_ret ?_ | refine v_skip ?_ | (refine v_exit ?_; repeat' first | refine xB_eq ?_ | refine xB_ne rfl ?_)
     | ((first | refine v_region (evOk.withY y) (fun K hK => ?_) | refine v_draw' (evOk.withY y) rfl (fun K hK => ?_) | refine v_drawF (evOk.withY y) rfl rfl (fun K hK => ?_)); simp only [go_sem,simprocAttr,hd])
     | (simp (disch := first | omega | rfl | (simp only [lnn]; omega)) only [spl])
     | (refine hK _ ?_; clear hK K)
     | (refine gdB_intro (fun h => ?_) (fun h => ?_) <;> simp only [go_sem,simprocAttr,h,hd] <;> (have h' := h; try simp only [bl] at h'))
     | (refine v_cond rfl (fun h => ?_) (fun h => ?_) <;> first | (exact Bool.noConfusion h) | (have h' := h; try simp only [bl] at h'))
     | (refine r_ret ?_; simp only [resL, resA, Tryz.f174, lk_cons', lk_nil', Nat.reduceBEq]; first | exact ⟨rfl, Sb.nil _, rfl⟩ | refine ⟨rfl, sbt ?_, rfl⟩ | refine ⟨rfl, Sb.of_eq ?_, rfl⟩)
     | (refine And.intro (by first | exact True.intro | omega | rfl | exact Nat.le_of_ble_eq_true rfl | (simp only [lnn]; omega) | exact List.forall_mem_nil _ | (refine List.forall_mem_cons.2 ⟨⟨_, rfl⟩, ?_⟩; repeat' first | exact List.forall_mem_nil _ | refine List.forall_mem_cons.2 ⟨⟨_, rfl⟩, ?_⟩)) ?_)
     | fail
    exact True.intro
theorem c_after (ts : List Tf) (n g c : Int) (G m i : Nat) (row : List Int) : Pure Tryz.prog 145 [tkX ts n g c G m, iv i, isl row] (.fn (.func 174) [] [.pt [isl row] 0, .pt [tsl ts, iv n, iv g, iv c, .sl 1 m (devC ts G m)] 0, .pt [iv i] 0]) := by
  unfold tkX
  refine p_intro evOk [] Tryz.func145 rfl Tryz.call145 ?_
  repeat' first
   | refine v_seq ?_ | refine v_block ?_ | refine v_ret ?_ | refine v_skip ?_ | (refine v_exit ?_; repeat' first | refine xB_eq ?_ | refine xB_ne rfl ?_)
   | ((first | refine rgA fun K hK => ?_ | refine rgB rfl fun K hK => ?_ | refine rgC rfl fun K hK => ?_); simp only [go_sem,simprocAttr])
   | (simp (disch := first | omega | rfl | (simp only [lnn]; omega)) only [spl])
   | (refine hK _ ?_; clear hK K)
   | (refine gdB_intro (fun h => ?_) (fun h => ?_) <;> simp only [go_sem,simprocAttr,h] <;> (have h' := h; try simp only [bl] at h'))
   | (refine v_cond rfl (fun h => ?_) (fun h => ?_) <;> first | (exact Bool.noConfusion h) | (have h' := h; try simp only [bl] at h'))
   | (refine r_ret ?_; simp only [resL, resA, Tryz.f145, lk_cons', lk_nil', Nat.reduceBEq]; first | exact ⟨rfl, Sb.nil _, rfl⟩ | refine ⟨rfl, sbt ?_, rfl⟩ | refine ⟨rfl, Sb.of_eq ?_, rfl⟩)
   | (refine And.intro (by first | exact True.intro | omega | rfl | exact Nat.le_of_ble_eq_true rfl | (simp only [lnn]; omega) | exact List.forall_mem_nil _ | (refine List.forall_mem_cons.2 ⟨⟨_, rfl⟩, ?_⟩; repeat' first | exact List.forall_mem_nil _ | refine List.forall_mem_cons.2 ⟨⟨_, rfl⟩, ?_⟩)) ?_)
   | fail
theorem it_first (rows : List AV) (row : List Int) (m : Nat) (hm : 1 ≤ m) (h0 : rows[0]? = some (isl row)) (hl : row.length ≤ 6) :
    IterC Tryz.prog 96 [.pt [.sl 1 m rows] 0] (ysC (costsTo row (fun k => gi row k) row.length)) (costsTo row (fun k => gi row k) row.length).length := by
  refine iter_intro evOk [18] Tryz.func96 rfl Tryz.call96 (fun y hy han => ?_)
  have n0 : (0 : Int) < m := by omega
  repeat' first
   | refine v_seq ?_ | refine v_block ?_ | refine v_ret ?_ | refine v_skip ?_ | (refine v_exit ?_; repeat' first | refine xB_eq ?_ | refine xB_ne rfl ?_)
   | ((first | refine v_region (evOk.withY y) (fun K hK => ?_) | refine v_draw' (evOk.withY y) rfl (fun K hK => ?_) | refine v_drawF (evOk.withY y) rfl rfl (fun K hK => ?_)); simp only [go_sem,simprocAttr,h0])
   | (simp (disch := first | omega | rfl | (simp only [lnn]; omega)) only [spl])
   | (refine hK _ ?_; clear hK K)
   | (refine gdB_intro (fun h => ?_) (fun h => ?_) <;> simp only [go_sem,simprocAttr,h,h0] <;> (have h' := h; try simp only [bl] at h'))
   | (refine v_cond rfl (fun h => ?_) (fun h => ?_) <;> first | (exact Bool.noConfusion h) | (have h' := h; try simp only [bl] at h'))
   | (refine r_ret ?_; simp only [resL, resA, Tryz.f96, lk_cons', lk_nil', Nat.reduceBEq]; first | exact ⟨rfl, Sb.nil _, rfl⟩ | refine ⟨rfl, sbt ?_, rfl⟩ | refine ⟨rfl, Sb.of_eq ?_, rfl⟩)
   | (refine And.intro (by first | exact True.intro | omega | rfl | exact Nat.le_of_ble_eq_true rfl | (simp only [lnn]; omega) | exact List.forall_mem_nil _ | (refine List.forall_mem_cons.2 ⟨⟨_, rfl⟩, ?_⟩; repeat' first | exact List.forall_mem_nil _ | refine List.forall_mem_cons.2 ⟨⟨_, rfl⟩, ?_⟩)) ?_)
   | (simp only [go_sem,simprocAttr,h0])
   | fail
  refine v_loop (T := Nat) (fun k => ⟨[(0, .v (.func (.yield y.l) #[] #[])), (7, isl row), (8, iv row.length), (9, iv k)], emp, 0, (22, 0, (costsTo row (fun k => gi row k) k).length)⟩) (fun k => k ≤ row.length) (fun k => row.length - k) 0 (by omega) (by (refine ent_eq ?_ rfl rfl rfl; repeat' first | exact trivial | refine ⟨?_, ?_⟩ | rfl)) ?_
  intro k hk
  have hsu : costsTo row (fun k => gi row k) (k + 1) = bif gi row k != -1 then costsTo row (fun k => gi row k) k ++ [gi row k] else costsTo row (fun k => gi row k) k := rfl
  by_cases hk2 : k < row.length
  · have hd : decide ((k : Int) < row.length) = true := decide_eq_true (by omega)
    cases hz : gi row k != -1
    · rw [hz, cond_false] at hsu
      repeat' first
       | refine v_seq ?_ | refine v_block ?_ | refine v_ret ?_ | refine v_skip ?_ | (refine v_exit ?_; repeat' first | refine xB_eq ?_ | refine xB_ne rfl ?_)
       | ((first | refine v_region (evOk.withY y) (fun K hK => ?_) | refine v_draw' (evOk.withY y) rfl (fun K hK => ?_) | refine v_drawF (evOk.withY y) rfl rfl (fun K hK => ?_)); simp only [go_sem,simprocAttr,hd,hz])
       | (simp (disch := first | omega | rfl | (simp only [lnn]; omega)) only [spl])
       | (refine hK _ ?_; clear hK K)
       | (refine gdB_intro (fun h => ?_) (fun h => ?_) <;> simp only [go_sem,simprocAttr,h,hd,hz] <;> (have h' := h; try simp only [bl] at h'))
       | (refine v_cond rfl (fun h => ?_) (fun h => ?_) <;> first | (exact Bool.noConfusion h) | (have h' := h; try simp only [bl] at h'))
       | (refine r_ret ?_; simp only [resL, resA, Tryz.f96, lk_cons', lk_nil', Nat.reduceBEq]; first | exact ⟨rfl, Sb.nil _, rfl⟩ | refine ⟨rfl, sbt ?_, rfl⟩ | refine ⟨rfl, Sb.of_eq ?_, rfl⟩)
       | (refine And.intro (by first | exact True.intro | omega | rfl | exact Nat.le_of_ble_eq_true rfl | (simp only [lnn]; omega) | exact List.forall_mem_nil _ | (refine List.forall_mem_cons.2 ⟨⟨_, rfl⟩, ?_⟩; repeat' first | exact List.forall_mem_nil _ | refine List.forall_mem_cons.2 ⟨⟨_, rfl⟩, ?_⟩)) ?_)
       | fail
      refine ⟨k + 1, ?_, by omega, by omega⟩
      rw [hsu]
      (refine ent_eq ?_ rfl rfl rfl; repeat' first | exact trivial | refine ⟨?_, ?_⟩ | rfl)
    · have hat := costsTo_at (f := fun k => gi row k) hk2 hz
      rw [hz, cond_true] at hsu
      repeat' first
       | refine v_seq ?_ | refine v_block ?_ | refine v_ret ?_ | refine v_skip ?_ | (refine v_exit ?_; repeat' first | refine xB_eq ?_ | refine xB_ne rfl ?_)
       | ((first | refine v_region (evOk.withY y) (fun K hK => ?_) | refine v_draw' (evOk.withY y) rfl (fun K hK => ?_) | refine v_drawF (evOk.withY y) rfl rfl (fun K hK => ?_)); simp only [go_sem,simprocAttr,hd,hz,han])
       | (simp (disch := first | omega | rfl | (simp only [lnn]; omega)) only [spl])
       | (refine hK _ ?_; clear hK K)
       | (refine gdB_intro (fun h => ?_) (fun h => ?_) <;> simp only [go_sem,simprocAttr,h,hd,hz,han] <;> (have h' := h; try simp only [bl] at h'))
       | (refine v_cond rfl (fun h => ?_) (fun h => ?_) <;> first | (exact Bool.noConfusion h) | (have h' := h; try simp only [bl] at h'))
       | (refine r_ret ?_; simp only [resL, resA, Tryz.f96, lk_cons', lk_nil', Nat.reduceBEq]; first | exact ⟨rfl, Sb.nil _, rfl⟩ | refine ⟨rfl, sbt ?_, rfl⟩ | refine ⟨rfl, Sb.of_eq ?_, rfl⟩)
       | (refine And.intro (by first | exact True.intro | omega | rfl | exact Nat.le_of_ble_eq_true rfl | (simp only [lnn]; omega) | exact List.forall_mem_nil _ | (refine List.forall_mem_cons.2 ⟨⟨_, rfl⟩, ?_⟩; repeat' first | exact List.forall_mem_nil _ | refine List.forall_mem_cons.2 ⟨⟨_, rfl⟩, ?_⟩)) ?_)
       | (refine And.intro (by rw [hy]; unfold ysC; rw [hat]; rfl) ?_)
       | fail
      refine ⟨k + 1, ?_, by omega, by omega⟩
      rw [hsu, List.length_append, List.length_singleton]
      (refine ent_eq ?_ rfl rfl rfl; repeat' first | exact trivial | refine ⟨?_, ?_⟩ | rfl)
  · obtain rfl : k = row.length := by omega
    have hd : decide ((row.length : Int) < row.length) = false := decide_eq_false (by omega)
    repeat' first
     | refine v_seq ?_ | refine v_block ?_ | refine v_ret ?_ | refine v_skip ?_ | (refine v_exit ?_; repeat' first | refine xB_eq ?_ | refine xB_ne rfl ?_)
     | ((first | refine v_region (evOk.withY y) (fun K hK => ?_) | refine v_draw' (evOk.withY y) rfl (fun K hK => ?_) | refine v_drawF (evOk.withY y) rfl rfl (fun K hK => ?_)); simp only [go_sem,simprocAttr,hd])
     | (simp (disch := first | omega | rfl | (simp only [lnn]; omega)) only [spl])
     | (refine hK _ ?_; clear hK K)
     | (refine gdB_intro (fun h => ?_) (fun h => ?_) <;> simp only [go_sem,simprocAttr,h,hd] <;> (have h' := h; try simp only [bl] at h'))
     | (refine v_cond rfl (fun h => ?_) (fun h => ?_) <;> first | (exact Bool.noConfusion h) | (have h' := h; try simp only [bl] at h'))
     | (refine r_ret ?_; simp only [resL, resA, Tryz.f96, lk_cons', lk_nil', Nat.reduceBEq]; first | exact ⟨rfl, Sb.nil _, rfl⟩ | refine ⟨rfl, sbt ?_, rfl⟩ | refine ⟨rfl, Sb.of_eq ?_, rfl⟩)
     | (refine And.intro (by first | exact True.intro | omega | rfl | exact Nat.le_of_ble_eq_true rfl | (simp only [lnn]; omega) | exact List.forall_mem_nil _ | (refine List.forall_mem_cons.2 ⟨⟨_, rfl⟩, ?_⟩; repeat' first | exact List.forall_mem_nil _ | refine List.forall_mem_cons.2 ⟨⟨_, rfl⟩, ?_⟩)) ?_)
     | fail
    exact True.intro
theorem c_BC2 (ts : List Tf) (n g c : Int) (G m : Nat) (i j : Nat) (hi : i < ts.length) (hj : j < ts.length) : Pure Tryz.prog 98 ([iv i, iv j] ++ [.pt [tsl ts, iv n, iv g, iv c, .sl 1 m (devC ts G m)] 0]) (iv (cmpS (gt7 ts i).nm (gt7 ts j).nm)) := by
  have b1 : (tcs ts)[((i : Nat) : Int).toNat * 3]? = some (.v (.string (gt7 ts i).nm)) := tcs_0 hi
  have b2 : (tcs ts)[((j : Nat) : Int).toNat * 3]? = some (.v (.string (gt7 ts j).nm)) := tcs_0 hj
  refine p_intro evOk [] Tryz.func98 rfl Tryz.call98 ?_
  repeat' first
   | refine v_seq ?_ | refine v_block ?_ | refine v_ret ?_ | refine v_skip ?_ | (refine v_exit ?_; repeat' first | refine xB_eq ?_ | refine xB_ne rfl ?_)
   | ((first | refine rgA fun K hK => ?_ | refine rgB rfl fun K hK => ?_ | refine rgC rfl fun K hK => ?_); simp only [go_sem,simprocAttr,b1,b2])
   | (simp (disch := first | omega | rfl | (simp only [lnn]; omega)) only [spl])
   | (refine hK _ ?_; clear hK K)
   | (refine gdB_intro (fun h => ?_) (fun h => ?_) <;> simp only [go_sem,simprocAttr,h,b1,b2] <;> (have h' := h; try simp only [bl] at h'))
   | (refine v_cond rfl (fun h => ?_) (fun h => ?_) <;> first | (exact Bool.noConfusion h) | (have h' := h; try simp only [bl] at h'))
   | (refine r_ret ?_; simp only [resL, resA, Tryz.f98, lk_cons', lk_nil', Nat.reduceBEq]; first | exact ⟨rfl, Sb.nil _, rfl⟩ | refine ⟨rfl, sbt ?_, rfl⟩ | refine ⟨rfl, Sb.of_eq ?_, rfl⟩)
   | (refine And.intro (by first | exact True.intro | omega | rfl | exact Nat.le_of_ble_eq_true rfl | (simp only [lnn]; omega) | exact List.forall_mem_nil _ | (refine List.forall_mem_cons.2 ⟨⟨_, rfl⟩, ?_⟩; repeat' first | exact List.forall_mem_nil _ | refine List.forall_mem_cons.2 ⟨⟨_, rfl⟩, ?_⟩)) ?_)
   | ((first | refine call_pure' (c_CompareS _ _) rfl ?_); simp only [go_sem,simprocAttr,b1,b2])
   | (simp only [go_sem,simprocAttr,b1,b2])
   | fail
  all_goals rfl
end Go.Proofs.YtabmhfmglhjmjaaGreatDoor
set_option maxRecDepth 100000
set_option maxHeartbeats 4000000
set_option linter.unusedSimpArgs false
set_option linter.unusedVariables false
set_option linter.unusedSectionVars false
namespace Go.Proofs.YtabmhfmglhjmjaaGreatDoor
open Go.Ab Go.RowKit
variable [Dr]
def pc7 (k : Nat) (x : AV) (done : List AV) : List AV := List.replicate k (.v (.slice none 0 0)) ++ x :: done
theorem pc7_len (k : Nat) (x : AV) (done : List AV) : (pc7 k x done).length = k + 1 + done.length := by simp [pc7]; omega
theorem pc7_at (k : Nat) (x : AV) (done : List AV) : (pc7 k x done)[k]? = some x := by simp [pc7]
theorem pc7_next (k : Nat) (x : AV) (done : List AV) : (pc7 k x done)[k + 1]? = done[0]? := by
  unfold pc7
  rw [List.getElem?_append_right (by simp), List.length_replicate, show k + 1 - k = 1 by omega]
  rfl
theorem pc7_set (k : Nat) (x y : AV) (done : List AV) : (pc7 k x done).set k y = pc7 k y done := by
  unfold pc7
  rw [List.set_append_right _ _ (by simp), List.length_replicate, Nat.sub_self]
  rfl
theorem pc7_splice (k : Nat) (x y : AV) (done : List AV) : splice (pc7 k x done) k [y] = pc7 k y done := by
  unfold splice pc7
  rw [List.take_left' (by simp), List.drop_append]
  simp
theorem pc7_succ (k : Nat) (done : List AV) : List.replicate (k + 1) (.v (.slice none 0 0)) ++ done = pc7 k (.v (.slice none 0 0)) done := by
  unfold pc7
  rw [List.replicate_succ']
  simp
theorem zrep_sing (x : AV) (n : Nat) : zrep [x] n = List.replicate n x := by
  unfold zrep
  exact List.flatten_replicate_singleton
def rstRow (ts : List Tf) (c : Int) (K G k : Nat) : List Int := (List.range ts.length).map (rst (dvn ts G) c K ts.length k)
def rstTo (ts : List Tf) (c : Int) (K G k n : Nat) : List Int := (List.range n).map (rst (dvn ts G) c K ts.length k)
theorem rstRow_len (ts : List Tf) (c : Int) (K G k : Nat) : (rstRow ts c K G k).length = ts.length := by simp [rstRow]
theorem rstTo_len (ts : List Tf) (c : Int) (K G k n : Nat) : (rstTo ts c K G k n).length = n := by simp [rstTo]
theorem rstTo_succ (ts : List Tf) (c : Int) (K G k n : Nat) : rstTo ts c K G k n ++ [rst (dvn ts G) c K ts.length k n] = rstTo ts c K G k (n + 1) := by simp [rstTo, List.range_succ]
theorem gi_rstRow {ts : List Tf} {c : Int} {K G k i : Nat} (h : i < ts.length) : gi (rstRow ts c K G k) (i : Nat) = rst (dvn ts G) c K ts.length k i := by simp [gi, rstRow, h]
def doneR (ts : List Tf) (c : Int) (K G q : Nat) : List AV := (List.range q).map fun j => isl (rstRow ts c K G (K - q + j))
theorem doneR_len (ts : List Tf) (c : Int) (K G q : Nat) : (doneR ts c K G q).length = q := by simp [doneR]
theorem doneR_succ {ts : List Tf} {c : Int} {K G q k : Nat} (h : K = k + 1 + q) : isl (rstRow ts c K G k) :: doneR ts c K G q = doneR ts c K G (q + 1) := by
  unfold doneR
  rw [List.range_succ_eq_map, List.map_cons, List.map_map]
  congr 1
  · rw [show K - (q + 1) + 0 = k by omega]
  · refine List.map_congr_left fun j _ => ?_
    show _ = isl (rstRow ts c K G (K - (q + 1) + (j + 1)))
    rw [show K - (q + 1) + (j + 1) = K - q + j by omega]
theorem doneR_0 {ts : List Tf} {c : Int} {K G q k : Nat} (h : K = k + 1 + q) (hq : 1 ≤ q) : (doneR ts c K G q)[0]? = some (isl (rstRow ts c K G (k + 1))) := by
  simp only [doneR, List.getElem?_map, List.getElem?_range (show 0 < q by omega), Option.map_some, Nat.add_zero]
  rw [show K - q = k + 1 by omega]
theorem nil_fz (k : Nat) (c : List AV) (n : Nat) : (List.replicate n (AV.v (.slice none 0 0))).map (AV.fz k c) = List.replicate n (.v (.slice none 0 0)) := by simp [fz_other]
theorem pc7_fz (r : Nat) (C : List AV) (k : Nat) (x : AV) (ts : List Tf) (c : Int) (K G q : Nat) : (pc7 k x (doneR ts c K G q)).map (AV.fz r C) = pc7 k (x.fz r C) (doneR ts c K G q) := by
  unfold pc7
  rw [List.map_append, List.map_cons, nil_fz]
  unfold doneR
  rw [isl_fz]
theorem doneR_plain (ts : List Tf) (c : Int) (K G q : Nat) : plainL (doneR ts c K G q) = true := isl_list_plain _ _
theorem tk_dp {ts : List Tf} {n g c : Int} {K G : Nat} (h : TkOk ts n g c K G) (hg : ∀ k, k < K → gap7 ts G k = false) : Dp (dvn ts G) c K ts.length (fun i => (gt7 ts i).nm) 20000000 := by
  refine ⟨h.K1, h.cb.1, fun k i => ?_, fun k hk => ?_, fun i j hi hj e => ?_⟩
  · by_cases hi : i < ts.length
    · unfold dvn
      cases cov ts G k i
      · exact .inl rfl
      · have h1 := dvTo_bound h.ok hi G k G
        have h2 : (G : Int) ≤ 200 := by
          have hKG := h.KG
          have hnb := h.nb
          have hK1 := h.K1
          have : (G : Int) ≤ (K : Int) * G := by
            have := Int.mul_le_mul_of_nonneg_right (show (1 : Int) ≤ K by omega) (show (0 : Int) ≤ G by omega)
            omega
          omega
        rw [cond_true]
        exact .inr ⟨h1.1, by omega⟩
    · left
      unfold dvn
      rw [cov_bad (q := 0) (by have := h.G1; omega) (by rw [gt7_out (by omega)]; unfold hasAt; exact within_false.2 (by simp; omega))]
      rfl
  · have h1 := hg k hk
    unfold gap7 at h1
    rw [List.all_eq_false] at h1
    obtain ⟨x, hx, hx2⟩ := h1
    unfold devRow at hx
    obtain ⟨i, hi, rfl⟩ := List.mem_map.1 hx
    have hi := List.mem_range.1 hi
    exact ⟨i, hi, by simpa using hx2⟩
  · rcases Nat.lt_trichotomy i j with hlt | hlt | hlt
    · exact absurd e (h.ok.uniq j i hlt hj)
    · exact hlt
    · exact absurd e.symm (h.ok.uniq i j hlt hi)
theorem c_rest (ts : List Tf) (n g c : Int) (K G : Nat) (h : TkOk ts n g c K G) (hg : ∀ k, k < K → gap7 ts G k = false) : Pure Tryz.prog 94 [tkX ts n g c G K] (.sl 1 K (doneR ts c K G K)) := by
  have hdp := tk_dp h hg
  have h6 := h.ok.n6
  have hcb := h.cb
  have hK1 := h.K1
  have hK20 := h.K20
  have hrb := fun k hk i => rst_bound hdp (by decide) (k := k) hk i
  have hKB : (K : Int) * (20000000 + c) ≤ 20 * 21000000 := Int.mul_le_mul (by omega) (by omega) (by omega) (by omega)
  have hdC := devC_len ts G K
  have n0 : ((0 : Nat) : Int) = 0 := rfl
  unfold tkX
  refine p_intro evOk [11] Tryz.func94 rfl Tryz.call94 ?_
  repeat' first
   | refine v_seq ?_ | refine v_block ?_ | refine v_ret ?_ | refine v_skip ?_ | (refine v_exit ?_; repeat' first | refine xB_eq ?_ | refine xB_ne rfl ?_)
   | ((first | refine rgA fun K hK => ?_ | refine rgB rfl fun K hK => ?_ | refine rgC rfl fun K hK => ?_); simp only [go_sem,simprocAttr,n0])
   | (simp (disch := first | omega | rfl | (simp only [lnn]; omega)) only [spl])
   | (refine hK _ ?_; clear hK K)
   | (refine gdB_intro (fun h => ?_) (fun h => ?_) <;> simp only [go_sem,simprocAttr,h,n0] <;> (have h' := h; try simp only [bl] at h'))
   | (refine v_cond rfl (fun h => ?_) (fun h => ?_) <;> first | (exact Bool.noConfusion h) | (have h' := h; try simp only [bl] at h'))
   | (refine r_ret ?_; simp only [resL, resA, Tryz.f94, lk_cons', lk_nil', Nat.reduceBEq]; first | exact ⟨rfl, Sb.nil _, rfl⟩ | refine ⟨rfl, sbt ?_, rfl⟩ | refine ⟨rfl, Sb.of_eq ?_, rfl⟩)
   | (refine And.intro (by first | exact True.intro | omega | rfl | exact Nat.le_of_ble_eq_true rfl | (simp only [lnn]; omega) | exact List.forall_mem_nil _ | (refine List.forall_mem_cons.2 ⟨⟨_, rfl⟩, ?_⟩; repeat' first | exact List.forall_mem_nil _ | refine List.forall_mem_cons.2 ⟨⟨_, rfl⟩, ?_⟩)) ?_)
   | fail
  refine v_loop (T := Nat × Nat) (fun x => ⟨[(1, .pt [tsl ts, iv n, iv g, iv c, .sl 1 K (devC ts G K)] 0), (3, .ls 0 0 1 K), (4, iv ((K : Int) - 1 - (x.1 : Nat)))], hls [(0, List.replicate (K - x.1) (.v (.slice none 0 0)) ++ doneR ts c K G x.1)], x.2, (63, 0, 0)⟩) (fun x => x.1 ≤ K ∧ 1 ≤ x.2) (fun x => K - x.1) (0, 1) ⟨by (first | omega | (dsimp only; omega)), by (first | omega | (dsimp only; omega))⟩ ?_ ?_
  · dsimp only
    rw [show (K : Int) - 1 - ((0 : Nat) : Int) = (K : Int) - 1 by omega]
    exact ent_rows _ (by (repeat' first | exact trivial | refine ⟨?_, ?_⟩ | rfl)) rfl ⟨⟨by simp [hset', zrep_sing, doneR], by (first | omega | (dsimp only; omega))⟩, True.intro⟩ (Nat.le_refl _)
  rintro ⟨q, X⟩ ⟨hq, hX⟩
  dsimp only at hq hX ⊢
  by_cases hq2 : q < K
  · obtain ⟨k, hk⟩ : ∃ k, K = k + 1 + q := ⟨K - 1 - q, by omega⟩
    have hki : (K : Int) - 1 - (q : Nat) = (k : Nat) := by omega
    have hdq := doneR_len ts c K G q
    have b1 : (devC ts G K)[((k : Nat) : Int).toNat * 1]? = some (isl (devRow ts G k)) := by rw [Int.toNat_natCast, Nat.mul_one]; exact devC_at (by omega)
    have b1' : (devC ts G K)[((k : Nat) : Int).toNat]? = some (isl (devRow ts G k)) := devC_at (by omega)
    have hrl := devRow_len ts G k
    rw [hki, show K - q = k + 1 by omega, pc7_succ]
    repeat' first
     | refine v_seq ?_ | refine v_block ?_ | refine v_ret ?_ | refine v_skip ?_ | (refine v_exit ?_; repeat' first | refine xB_eq ?_ | refine xB_ne rfl ?_)
     | ((first | refine rgA fun K hK => ?_ | refine rgB rfl fun K hK => ?_ | refine rgC rfl fun K hK => ?_); simp only [go_sem,simprocAttr,n0,hls,hdC,b1,b1'])
     | (simp (disch := first | omega | rfl | (simp only [lnn]; omega)) only [spl])
     | (refine hK _ ?_; clear hK K)
     | (refine gdB_intro (fun h => ?_) (fun h => ?_) <;> simp only [go_sem,simprocAttr,h,n0,hls,hdC,b1,b1'] <;> (have h' := h; try simp only [bl] at h'))
     | (refine v_cond rfl (fun h => ?_) (fun h => ?_) <;> first | (exact Bool.noConfusion h) | (have h' := h; try simp only [bl] at h'))
     | (refine r_ret ?_; simp only [resL, resA, Tryz.f94, lk_cons', lk_nil', Nat.reduceBEq]; first | exact ⟨rfl, Sb.nil _, rfl⟩ | refine ⟨rfl, sbt ?_, rfl⟩ | refine ⟨rfl, Sb.of_eq ?_, rfl⟩)
     | (refine And.intro (by first | exact True.intro | omega | rfl | exact Nat.le_of_ble_eq_true rfl | (simp only [lnn]; omega) | exact List.forall_mem_nil _ | (refine List.forall_mem_cons.2 ⟨⟨_, rfl⟩, ?_⟩; repeat' first | exact List.forall_mem_nil _ | refine List.forall_mem_cons.2 ⟨⟨_, rfl⟩, ?_⟩)) ?_)
     | (simp only [go_sem,simprocAttr,b1,b1',hdC,isl])
     | fail
    all_goals try (exfalso; omega)
    refine vc_ent (ent_nil_cell 0 k 1 (hset_at emp 0 _) (pc7_at _ _ _)) ?_
    refine v_loop (T := Nat × Nat × Nat) (fun x => ⟨[(1, .pt [tsl ts, iv n, iv g, iv c, .sl 1 K (devC ts G K)] 0), (3, .ls 0 0 1 K), (4, iv k), (23, isl (devRow ts G k)), (24, iv (devRow ts G k).length), (25, iv x.1)], hls [(0, pc7 k (.ls x.2.1 0 1 x.1) (doneR ts c K G q)), (x.2.1, ints (rstTo ts c K G k x.1))], x.2.2, (63, 0, 0)⟩) (fun x => x.1 ≤ ts.length ∧ 1 ≤ x.2.1 ∧ x.2.1 < x.2.2) (fun x => ts.length - x.1) (0, X, X + 1) ⟨by (first | omega | (dsimp only; omega)), by (first | omega | (dsimp only; omega)), by (first | omega | (dsimp only; omega))⟩ ?_ ?_
    · have x0 : (X == 0) = false := beq_ne (by omega)
      exact ent_rows _ (by (repeat' first | exact trivial | refine ⟨?_, ?_⟩ | rfl)) rfl ⟨⟨by simp [hset', x0, pc7_set], by (first | omega | (dsimp only; omega))⟩, ⟨hset_at _ _ _, by (first | omega | (dsimp only; omega))⟩, True.intro⟩ (Nat.le_refl _)
    rintro ⟨i, r, Y⟩ ⟨hi, hr, hrY⟩
    dsimp only at hi hr hrY ⊢
    have q0 : (r == 0) = false := beq_ne (by omega)
    have q1 : (0 == r) = false := beq_ne (by omega)
    have y0 : (Y == 0) = false := beq_ne (by omega)
    have y1 : (0 == Y) = false := beq_ne (by omega)
    have y2 : (Y == r) = false := beq_ne (by omega)
    have y3 : (r == Y) = false := beq_ne (by omega)
    have hel := rstTo_len ts c K G k i
    have htk : List.take i (ints (rstTo ts c K G k i)) = ints (rstTo ts c K G k i) := List.take_of_length_le (by rw [ints_length, hel]; exact Nat.le_refl _)
    by_cases hi2 : i < ts.length
    · have hd2 : decide ((i : Int) < (devRow ts G k).length) = true := decide_eq_true (by omega)
      have hgi : gi (devRow ts G k) (i : Nat) = dvn ts G k i := gi_devRow hi2
      have htn : ((k : Nat) : Int).toNat = k := Int.toNat_natCast k
      have htn1 : ((k : Int) + 1).toNat = k + 1 := by omega
      have hpl := pc7_len k (.ls r 0 1 i) (doneR ts c K G q)
      have p0 := pc7_at k (.ls r 0 1 i) (doneR ts c K G q)
      have p2 := fun y => pc7_splice k (.ls r 0 1 i) y (doneR ts c K G q)
      have hrk := hrb k (by omega) i
      have hdv := hdp.rng k i
      cases hz : dvn ts G k i != -1
      · have hrv : rst (dvn ts G) c K ts.length k i = dvn ts G k i := by
          have := rst_sign hdp _ k rfl (by omega) i
          have hz' : dvn ts G k i = -1 := by simpa using hz
          omega
        repeat' first
         | refine v_seq ?_ | refine v_block ?_ | refine v_ret ?_ | refine v_skip ?_ | (refine v_exit ?_; repeat' first | refine xB_eq ?_ | refine xB_ne rfl ?_)
         | ((first | refine rgA fun K hK => ?_ | refine rgB rfl fun K hK => ?_ | refine rgC rfl fun K hK => ?_); simp only [go_sem,simprocAttr,hd2,n0,hls,hgi,hz,htn,hel,htk,hpl,p0,p2,q0,q1,y0,y1,y2,y3,hset_at,hset_hset])
         | (simp (disch := first | omega | rfl | (simp only [lnn]; omega)) only [spl])
         | (refine hK _ ?_; clear hK K)
         | (refine gdB_intro (fun h => ?_) (fun h => ?_) <;> simp only [go_sem,simprocAttr,h,hd2,n0,hls,hgi,hz,htn,hel,htk,hpl,p0,p2,q0,q1,y0,y1,y2,y3,hset_at,hset_hset] <;> (have h' := h; try simp only [bl] at h'))
         | (refine v_cond rfl (fun h => ?_) (fun h => ?_) <;> first | (exact Bool.noConfusion h) | (have h' := h; try simp only [bl] at h'))
         | (refine r_ret ?_; simp only [resL, resA, Tryz.f94, lk_cons', lk_nil', Nat.reduceBEq]; first | exact ⟨rfl, Sb.nil _, rfl⟩ | refine ⟨rfl, sbt ?_, rfl⟩ | refine ⟨rfl, Sb.of_eq ?_, rfl⟩)
         | (refine And.intro (by first | exact True.intro | omega | rfl | exact Nat.le_of_ble_eq_true rfl | (simp only [lnn]; omega) | exact List.forall_mem_nil _ | (refine List.forall_mem_cons.2 ⟨⟨_, rfl⟩, ?_⟩; repeat' first | exact List.forall_mem_nil _ | refine List.forall_mem_cons.2 ⟨⟨_, rfl⟩, ?_⟩)) ?_)
         | (simp only [go_sem,simprocAttr,htn,hls,hgi,hel,htk,hpl,p0,p2,q0,q1,y0,y1,y2,y3,hset_at,hset_hset])
         | (simp only [htk])
         | fail
        all_goals try (exfalso; omega)
        refine ⟨(i + 1, Y, Y + 1), ?_, ⟨by (first | omega | (dsimp only; omega)), by (first | omega | (dsimp only; omega)), by (first | omega | (dsimp only; omega))⟩, by (first | omega | (dsimp only; omega))⟩
        dsimp only
        rw [← rstTo_succ, hrv]
        have htk2 : List.take i (rstTo ts c K G k i) = rstTo ts c K G k i := List.take_of_length_le (Nat.le_of_eq hel)
        exact ent_rows [(0, pc7 k (.ls Y 0 1 (i + 1)) (doneR ts c K G q)), (Y, ints (rstTo ts c K G k i ++ [dvn ts G k i]))] (by (repeat' first | exact trivial | refine ⟨?_, ?_⟩ | rfl)) rfl ⟨⟨by simp [hset', y0], by (first | omega | (dsimp only; omega))⟩, ⟨by simp [hset', y1, htk2], by (first | omega | (dsimp only; omega))⟩, True.intro⟩ (Nat.le_refl _)
      · by_cases hq1 : 1 ≤ q
        · have hlt : decide ((k : Int) + 1 < K) = true := decide_eq_true (by omega)
          have p1 := pc7_next k (.ls r 0 1 i) (doneR ts c K G q)
          rw [doneR_0 hk hq1] at p1
          have hrl2 := rstRow_len ts c K G (k + 1)
          have hgr : ∀ j : Nat, -1 ≤ gi (rstRow ts c K G (k + 1)) j ∧ gi (rstRow ts c K G (k + 1)) j ≤ 500000000 := fun j => by
            by_cases hj : j < ts.length
            · rw [gi_rstRow hj]
              have := hrb (k + 1) (by omega) j
              omega
            · have : gi (rstRow ts c K G (k + 1)) j = 0 := by simp [gi, rstRow, hj]
              omega
          have ka := c_after ts n g c G K i (rstRow ts c K G (k + 1))
          have kb := c_best _ 174 [.pt [isl (rstRow ts c K G (k + 1))] 0, .pt [tsl ts, iv n, iv g, iv c, .sl 1 K (devC ts G K)] 0, .pt [iv i] 0] (by simp [plainL, AV.plain, isl, tsl, ints_plain, tcs_plain, devC_plain]) (it_after ts n g c G K i (rstRow ts c K G (k + 1)) hcb (by omega) hgr)
          have hV : rst (dvn ts G) c K ts.length k i = dvn ts G k i + bL (costsTo (rstRow ts c K G (k + 1)) (fun j => chg c i j + gi (rstRow ts c K G (k + 1)) j) (rstRow ts c K G (k + 1)).length) := by
            rw [rst_step (by omega), show (dvn ts G k i == -1) = false by simpa using hz, cond_false, bL_costs, hrl2]
            congr 1
            refine bestN_congr _ (fun j hj => ?_) (fun j hj _ => ?_)
            · rw [gi_rstRow hj]; rfl
            · rw [gi_rstRow hj]
          generalize bL (costsTo (rstRow ts c K G (k + 1)) (fun j => chg c i j + gi (rstRow ts c K G (k + 1)) j) (rstRow ts c K G (k + 1)).length) = V at *
          have hpl2 : plainL [.pt [isl (rstRow ts c K G (k + 1))] 0, .pt [tsl ts, iv n, iv g, iv c, .sl 1 K (devC ts G K)] 0, .pt [iv i] 0] = true := by simp [plainL, AV.plain, isl, tsl, ints_plain, tcs_plain, devC_plain]
          unfold tkX at ka
          repeat' first
           | refine v_seq ?_ | refine v_block ?_ | refine v_ret ?_ | refine v_skip ?_ | (refine v_exit ?_; repeat' first | refine xB_eq ?_ | refine xB_ne rfl ?_)
           | ((first | refine rgA fun K hK => ?_ | refine rgB rfl fun K hK => ?_ | refine rgC rfl fun K hK => ?_); simp only [go_sem,simprocAttr,hd2,n0,hls,hgi,hz,hlt,htn,htn1,hel,htk,hpl,p0,p1,p2,q0,q1,y0,y1,y2,y3,hset_at,hset_hset])
           | (simp (disch := first | omega | rfl | (simp only [lnn]; omega)) only [spl])
           | (refine hK _ ?_; clear hK K)
           | (refine gdB_intro (fun h => ?_) (fun h => ?_) <;> simp only [go_sem,simprocAttr,h,hd2,n0,hls,hgi,hz,hlt,htn,htn1,hel,htk,hpl,p0,p1,p2,q0,q1,y0,y1,y2,y3,hset_at,hset_hset] <;> (have h' := h; try simp only [bl] at h'))
           | (refine v_cond rfl (fun h => ?_) (fun h => ?_) <;> first | (exact Bool.noConfusion h) | (have h' := h; try simp only [bl] at h'))
           | (refine r_ret ?_; simp only [resL, resA, Tryz.f94, lk_cons', lk_nil', Nat.reduceBEq]; first | exact ⟨rfl, Sb.nil _, rfl⟩ | refine ⟨rfl, sbt ?_, rfl⟩ | refine ⟨rfl, Sb.of_eq ?_, rfl⟩)
           | (refine And.intro (by first | exact True.intro | omega | rfl | exact Nat.le_of_ble_eq_true rfl | (simp only [lnn]; omega) | exact List.forall_mem_nil _ | (refine List.forall_mem_cons.2 ⟨⟨_, rfl⟩, ?_⟩; repeat' first | exact List.forall_mem_nil _ | refine List.forall_mem_cons.2 ⟨⟨_, rfl⟩, ?_⟩)) ?_)
           | ((first | refine call_pure' (ka) rfl ?_ | refine call_pure' (kb) rfl ?_); simp only [go_sem,simprocAttr,hd2,n0,hls,hgi,hz,hlt,htn,htn1,hel,htk,hpl,p0,p1,p2,q0,q1,y0,y1,y2,y3,hset_at,hset_hset])
           | (simp only [go_sem,simprocAttr,htn,htn1,hls,hgi,hel,htk,hpl,p0,p1,p2,q0,q1,y0,y1,y2,y3,hset_at,hset_hset])
           | (simp only [htk])
           | fail
          all_goals try (exfalso; omega)
          refine ⟨(i + 1, Y, Y + 1), ?_, ⟨by (first | omega | (dsimp only; omega)), by (first | omega | (dsimp only; omega)), by (first | omega | (dsimp only; omega))⟩, by (first | omega | (dsimp only; omega))⟩
          dsimp only
          rw [← rstTo_succ, hV]
          have htk2 : List.take i (rstTo ts c K G k i) = rstTo ts c K G k i := List.take_of_length_le (Nat.le_of_eq hel)
          exact ent_rows [(0, pc7 k (.ls Y 0 1 (i + 1)) (doneR ts c K G q)), (Y, ints (rstTo ts c K G k i ++ [dvn ts G k i + V]))] (by (repeat' first | exact trivial | refine ⟨?_, ?_⟩ | rfl)) rfl ⟨⟨by simp [hset', y0], by (first | omega | (dsimp only; omega))⟩, ⟨by simp [hset', y1, htk2], by (first | omega | (dsimp only; omega))⟩, True.intro⟩ (Nat.le_refl _)
        · obtain rfl : q = 0 := by omega
          have hlt : decide ((k : Int) + 1 < K) = false := decide_eq_false (by omega)
          have hrv : rst (dvn ts G) c K ts.length k i = dvn ts G k i := by
            have := rst_last (dv := dvn ts G) (c := c) (K := K) (T := ts.length) hK1 i
            rwa [show K - 1 = k by omega] at this
          repeat' first
           | refine v_seq ?_ | refine v_block ?_ | refine v_ret ?_ | refine v_skip ?_ | (refine v_exit ?_; repeat' first | refine xB_eq ?_ | refine xB_ne rfl ?_)
           | ((first | refine rgA fun K hK => ?_ | refine rgB rfl fun K hK => ?_ | refine rgC rfl fun K hK => ?_); simp only [go_sem,simprocAttr,hd2,n0,hls,hgi,hz,hlt,htn,hel,htk,hpl,p0,p2,q0,q1,y0,y1,y2,y3,hset_at,hset_hset])
           | (simp (disch := first | omega | rfl | (simp only [lnn]; omega)) only [spl])
           | (refine hK _ ?_; clear hK K)
           | (refine gdB_intro (fun h => ?_) (fun h => ?_) <;> simp only [go_sem,simprocAttr,h,hd2,n0,hls,hgi,hz,hlt,htn,hel,htk,hpl,p0,p2,q0,q1,y0,y1,y2,y3,hset_at,hset_hset] <;> (have h' := h; try simp only [bl] at h'))
           | (refine v_cond rfl (fun h => ?_) (fun h => ?_) <;> first | (exact Bool.noConfusion h) | (have h' := h; try simp only [bl] at h'))
           | (refine r_ret ?_; simp only [resL, resA, Tryz.f94, lk_cons', lk_nil', Nat.reduceBEq]; first | exact ⟨rfl, Sb.nil _, rfl⟩ | refine ⟨rfl, sbt ?_, rfl⟩ | refine ⟨rfl, Sb.of_eq ?_, rfl⟩)
           | (refine And.intro (by first | exact True.intro | omega | rfl | exact Nat.le_of_ble_eq_true rfl | (simp only [lnn]; omega) | exact List.forall_mem_nil _ | (refine List.forall_mem_cons.2 ⟨⟨_, rfl⟩, ?_⟩; repeat' first | exact List.forall_mem_nil _ | refine List.forall_mem_cons.2 ⟨⟨_, rfl⟩, ?_⟩)) ?_)
           | (simp only [go_sem,simprocAttr,htn,hls,hgi,hel,htk,hpl,p0,p2,q0,q1,y0,y1,y2,y3,hset_at,hset_hset])
           | (simp only [htk])
           | fail
          all_goals try (exfalso; omega)
          refine ⟨(i + 1, Y, Y + 1), ?_, ⟨by (first | omega | (dsimp only; omega)), by (first | omega | (dsimp only; omega)), by (first | omega | (dsimp only; omega))⟩, by (first | omega | (dsimp only; omega))⟩
          dsimp only
          rw [← rstTo_succ, hrv]
          have htk2 : List.take i (rstTo ts c K G k i) = rstTo ts c K G k i := List.take_of_length_le (Nat.le_of_eq hel)
          exact ent_rows [(0, pc7 k (.ls Y 0 1 (i + 1)) (doneR ts c K G 0)), (Y, ints (rstTo ts c K G k i ++ [dvn ts G k i]))] (by (repeat' first | exact trivial | refine ⟨?_, ?_⟩ | rfl)) rfl ⟨⟨by simp [hset', y0], by (first | omega | (dsimp only; omega))⟩, ⟨by simp [hset', y1, htk2], by (first | omega | (dsimp only; omega))⟩, True.intro⟩ (Nat.le_refl _)
    · obtain rfl : i = ts.length := by omega
      have hd2 : decide ((ts.length : Int) < (devRow ts G k).length) = false := decide_eq_false (by omega)
      have hRl := rstRow_len ts c K G k
      have hds := doneR_succ (ts := ts) (c := c) (G := G) hk
      refine vc_ent ((ent_freezeH r (c := ints (rstTo ts c K G k ts.length)) (by simp [hls, hset', q1]) (ints_plain _)).trans (ent_rows (fr := [(1, .pt [tsl ts, iv n, iv g, iv c, .sl 1 K (devC ts G K)] 0), (3, .ls 0 0 1 K), (4, iv k), (23, isl (devRow ts G k)), (24, iv (devRow ts G k).length), (25, iv ts.length)]) [(0, pc7 k (isl (rstRow ts c K G k)) (doneR ts c K G q))] ?_ rfl ?_ (Nat.le_refl _))) ?_
      · simp only [fzF, AV.fz, tsl, isl, iv, cond_false, q0]
        (repeat' first | exact trivial | refine ⟨?_, ?_⟩ | rfl)
      · refine ⟨⟨?_, by (first | omega | (dsimp only; omega))⟩, True.intro⟩
        have hfzr : AV.fz r (ints (rstTo ts c K G k ts.length)) (.ls r 0 1 ts.length) = isl (rstRow ts c K G k) := by
          rw [fz_isl (by rw [hel])]
          rfl
        have hpf := pc7_fz r (ints (rstTo ts c K G k ts.length)) k (.ls r 0 1 ts.length) ts c K G q
        rw [hfzr] at hpf
        simp [hfz, hls, hset', q0, hpf]
      repeat' first
       | refine v_seq ?_ | refine v_block ?_ | refine v_ret ?_ | refine v_skip ?_ | (refine v_exit ?_; repeat' first | refine xB_eq ?_ | refine xB_ne rfl ?_)
       | ((first | refine rgA fun K hK => ?_ | refine rgB rfl fun K hK => ?_ | refine rgC rfl fun K hK => ?_); simp only [go_sem,simprocAttr,hd2,n0,hls])
       | (simp (disch := first | omega | rfl | (simp only [lnn]; omega)) only [spl])
       | (refine hK _ ?_; clear hK K)
       | (refine gdB_intro (fun h => ?_) (fun h => ?_) <;> simp only [go_sem,simprocAttr,h,hd2,n0,hls] <;> (have h' := h; try simp only [bl] at h'))
       | (refine v_cond rfl (fun h => ?_) (fun h => ?_) <;> first | (exact Bool.noConfusion h) | (have h' := h; try simp only [bl] at h'))
       | (refine r_ret ?_; simp only [resL, resA, Tryz.f94, lk_cons', lk_nil', Nat.reduceBEq]; first | exact ⟨rfl, Sb.nil _, rfl⟩ | refine ⟨rfl, sbt ?_, rfl⟩ | refine ⟨rfl, Sb.of_eq ?_, rfl⟩)
       | (refine And.intro (by first | exact True.intro | omega | rfl | exact Nat.le_of_ble_eq_true rfl | (simp only [lnn]; omega) | exact List.forall_mem_nil _ | (refine List.forall_mem_cons.2 ⟨⟨_, rfl⟩, ?_⟩; repeat' first | exact List.forall_mem_nil _ | refine List.forall_mem_cons.2 ⟨⟨_, rfl⟩, ?_⟩)) ?_)
       | fail
      refine ⟨(q + 1, Y), ?_, ⟨by (first | omega | (dsimp only; omega)), by (first | omega | (dsimp only; omega))⟩, by (first | omega | (dsimp only; omega))⟩
      dsimp only
      rw [← hds, show K - (q + 1) = k by omega, show (K : Int) - 1 - ((q + 1 : Nat) : Int) = (k : Int) - 1 by omega]
      exact ent_rows _ (by (repeat' first | exact trivial | refine ⟨?_, ?_⟩ | rfl)) rfl ⟨⟨hset_at emp 0 _, by (first | omega | (dsimp only; omega))⟩, True.intro⟩ (Nat.le_refl _)
  · obtain rfl : q = K := by omega
    rw [Nat.sub_self, List.replicate_zero, List.nil_append]
    repeat' first
     | refine v_seq ?_ | refine v_block ?_ | refine v_ret ?_ | refine v_skip ?_ | (refine v_exit ?_; repeat' first | refine xB_eq ?_ | refine xB_ne rfl ?_)
     | ((first | refine rgA fun K hK => ?_ | refine rgB rfl fun K hK => ?_ | refine rgC rfl fun K hK => ?_); simp only [go_sem,simprocAttr,n0,hls])
     | (simp (disch := first | omega | rfl | (simp only [lnn]; omega)) only [spl])
     | (refine hK _ ?_; clear hK K)
     | (refine gdB_intro (fun h => ?_) (fun h => ?_) <;> simp only [go_sem,simprocAttr,h,n0,hls] <;> (have h' := h; try simp only [bl] at h'))
     | (refine v_cond rfl (fun h => ?_) (fun h => ?_) <;> first | (exact Bool.noConfusion h) | (have h' := h; try simp only [bl] at h'))
     | (refine r_ret ?_; simp only [resL, resA, Tryz.f94, lk_cons', lk_nil', Nat.reduceBEq]; first | exact ⟨rfl, Sb.nil _, rfl⟩ | refine ⟨rfl, sbt ?_, rfl⟩ | refine ⟨rfl, Sb.of_eq ?_, rfl⟩)
     | (refine And.intro (by first | exact True.intro | omega | rfl | exact Nat.le_of_ble_eq_true rfl | (simp only [lnn]; omega) | exact List.forall_mem_nil _ | (refine List.forall_mem_cons.2 ⟨⟨_, rfl⟩, ?_⟩; repeat' first | exact List.forall_mem_nil _ | refine List.forall_mem_cons.2 ⟨⟨_, rfl⟩, ?_⟩)) ?_)
     | fail
    all_goals try (exfalso; omega)
    refine r_freeze 0 (hset_at emp 0 _) (doneR_plain _ _ _ _ _) (r_ret ?_)
    have hdq := doneR_len ts c q G q
    have hle : 0 + q * 1 ≤ (doneR ts c q G q).length := by rw [hdq]; omega
    have htk : List.take (q * 1) (List.drop 0 (doneR ts c q G q)) = doneR ts c q G q := List.take_of_length_le (by rw [List.drop_zero, hdq]; omega)
    simp only [resL, resA, Tryz.f94, fzF, lk_cons', lk_nil', Nat.reduceBEq, AV.fz, beq_self_eq_true, cond_true, if_pos hle, htk]
    exact ⟨rfl, Sb.of_eq rfl, rfl⟩
end Go.Proofs.YtabmhfmglhjmjaaGreatDoor

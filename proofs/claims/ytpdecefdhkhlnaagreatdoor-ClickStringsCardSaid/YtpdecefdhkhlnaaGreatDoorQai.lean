/- Parts of the proof, put together by a program. -/
import Derived.KernelRfl
import Derived.Lib.AtoiTie
import Derived.Lib.ItoaNum
import Derived.Lib.Strings
import Derived.Lib.SplitLaws
import Derived.Test.YtpdecefdhkhlnaaGreatDoorQad
import Derived.Test.YtpdecefdhkhlnaaGreatDoorQah
set_option linter.unusedSimpArgs false
set_option linter.unusedVariables false
set_option linter.unusedSectionVars false
namespace Go.Ab
variable [Dr]
open Go.RowKit
def gal (g : Gh) (b : Nat) (ob : Obj) : Gh where
  B0 := fun x => g.B0 x ∨ x = b
  O0 := g.O0
  inv := fun O w => g.inv O w ∧ w.heap[b]? = some ob
  mark := g.mark
  stab := fun O w O' w' h t pr => ⟨g.stab _ _ _ _ h.1 t (pr.mono fun _ hb => .inl hb), by rw [pr.block b (.inr rfl)]; exact h.2⟩
  p := g.p
  βp := g.βp
  Op := g.Op
  wp := g.wp
  hp := g.hp
abbrev ptr0 (b : Nat) : Value := .pointer (some ⟨b, 0, none⟩)
theorem al_in {g : Gh} {β : Bt} {O : Nat → Prop} {f : Nat → Option AV} {H : Hp} {nx : Nat} {n : Nat × Nat × Nat} {a : Act} {w : World} {s : Nat} (h : Cf g β O f H nx n a w) (hs : s < n.1) (arr : Array Value) (e : TypeId) :
    Cf (gal g w.heap.size (Obj.cells arr e (0, 0))) β (fun b => O b ∨ b = w.heap.size) (updF f (some s) (.v (ptr0 w.heap.size))) H nx n (a.put (some s) (ptr0 w.heap.size)) (w.alloc (.cells arr e)) := by
  obtain ⟨h1, h2, hp, h3, h4⟩ := hc_new h.hc h.b0 (c := []) (arr := arr) e (by simp) (fun j x hx => by simp at hx)
  refine Cf.put (d := some s) hs (R.vv _) ⟨?_, fun t av ht => let ⟨u, p, q⟩ := h.fr t av ht; ⟨u, p, q.mono h2 (fun _ _ h => h)⟩, h.sz, ⟨fun k c hk => ?_, h.hc.inj, hp.bk h.hc.own, fun b hb => ⟨.inl (h.hc.base b hb).1, .inl (h.hc.base b hb).2⟩, h.hc.free, h.hc.fresh⟩,
    ⟨g.stab _ _ _ _ h.inv h2 hp, h4⟩, fun b hb => hb.elim (fun h' => Nat.lt_of_lt_of_le (h.b0 b h') h2.size) (fun e => by rw [e]; exact lt_of_get h4), h.pp, h.prot, h.tr.trans h2⟩
  · have hd := h.defers.tr h2
    obtain ⟨Ds, d1, d2, d3⟩ := hd.ds
    refine ⟨hd.may, Ds, d1, d2, fun D hD => ?_⟩
    obtain ⟨q1, q2, q3⟩ := d3 D hD
    refine ⟨q1, fun hb => hb.elim q2 fun e => ?_, q3⟩
    rw [e, h4] at q3
    cases q3
  · rcases h.hc.row k c hk with q | ⟨b, st, q1, q2, q3, q4⟩
    · exact .inl q
    · refine .inr ⟨b, st, q1, .inl q2, fun hb => hb.elim q3 fun e => ?_, q4.mono h2 (fun _ _ h => h) ?_⟩
      · have := q4.lt; omega
      · have := q4.lt
        exact Below.heap_alloc _ _ _ this
theorem al_out {g : Gh} {β : Bt} {O : Nat → Prop} {f : Nat → Option AV} {H : Hp} {nx : Nat} {n : Nat × Nat × Nat} {a : Act} {w : World} {s b : Nat} {arr : Array Value} {e : TypeId} {zs : List AV} (h : Cf (gal g b (Obj.cells arr e (0, 0))) β O f H nx n a w) (hO : O b) (hB : ¬ g.B0 b) (hO0 : ∀ b', g.O0 b' → g.B0 b')
    (hs : f s = some (.v (ptr0 b))) (hz : Rs β O w zs arr) : Cf g (fun k => if k = nx then some (some (b, 0)) else β k) O (updF f (some s) (.lp nx 0)) (hset H nx (some zs)) (nx + 1) n a w := by
  have hβ : ∀ k p, β k = some p → (fun k => if k = nx then some (some (b, 0)) else β k) k = some p := fun k p hk => by
    have : k ≠ nx := fun e => by rw [e, h.hc.fresh nx (Nat.le_refl _)] at hk; cases hk
    show (if _ = _ then _ else _) = _
    rw [if_neg this, hk]
  have old : ∀ k, k ≠ nx → hset H nx (some zs) k = H k := fun k hk => by rw [hset', show (nx == k) = false by simpa using Ne.symm hk]
  refine ⟨?_, fun t av ht => ?_, h.sz, ⟨fun k c hk => ?_, fun k k' b1 s1 s2 a1 a2 a3 a4 => ?_, h.hc.own, fun b' hb => ⟨(h.hc.base b' hb).1, hO0 b' hb⟩, fun k hk => ?_, fun k hk => ?_⟩, h.inv.1, fun b' hb => h.b0 b' (.inl hb), h.pp, fun k q hq => hβ _ _ (h.prot k q hq), h.tr⟩
  · obtain ⟨Ds, d1, d2, d3⟩ := h.defers.ds
    exact ⟨h.defers.may, Ds, d1, d2, fun D hD => let ⟨q1, q2, q3⟩ := d3 D hD; ⟨q1, fun hb => q2 (.inl hb), q3⟩⟩
  · simp only [updF] at ht
    by_cases es : s = t
    · subst es
      simp only [BEq.rfl, cond_true, Option.some.injEq] at ht
      subst ht
      obtain ⟨u, p, q⟩ := h.fr s _ hs
      refine ⟨u, p, ?_⟩
      rw [q.v_inv]
      exact .lp nx 0 b 0 (if_pos rfl)
    · rw [show (s == t) = false by simpa using es, cond_false] at ht
      obtain ⟨u, p, q⟩ := h.fr t av ht
      exact ⟨u, p, q.mono (Tr.refl _ _) hβ⟩
  · by_cases e1 : k = nx
    · subst e1
      rw [hset', beq_self_eq_true] at hk
      cases hk
      refine .inr ⟨b, 0, if_pos rfl, hO, hB, arr, e, h.inv.2, by rw [hz.1]; omega, fun j x hj => ?_⟩
      obtain ⟨u, p, q⟩ := hz.2 j x hj
      exact ⟨u, by rw [Nat.zero_add]; exact p, q.mono (Tr.refl _ _) hβ⟩
    · rw [old k e1] at hk
      rcases h.hc.row k c hk with q | ⟨b', st, q1, q2, q3, q4⟩
      · exact .inl ⟨hβ _ _ q.1, q.2⟩
      · exact .inr ⟨b', st, hβ _ _ q1, q2, fun hb => q3 (.inl hb), q4.mono (Tr.refl _ _) hβ rfl⟩
  · have a3' : (if k = nx then some (some (b, 0)) else β k) = some (some (b1, s1)) := a3
    have a4' : (if k' = nx then some (some (b, 0)) else β k') = some (some (b1, s2)) := a4
    have no : ∀ k st, k ≠ nx → hset H nx (some zs) k ≠ none → β k = some (some (b, st)) → False := fun k st e1 e2 e3 => by
      rw [old k e1] at e2
      cases hq : H k with
      | none => exact e2 hq
      | some c =>
        rcases h.hc.row k c hq with q | ⟨b', st', q1, q2, q3, q4⟩
        · rw [q.1] at e3; cases e3
        · rw [q1] at e3; cases e3; exact q3 (.inr rfl)
    by_cases e1 : k = nx <;> by_cases e2 : k' = nx
    · rw [e1, e2]
    · rw [if_pos e1] at a3'; rw [if_neg e2] at a4'
      cases a3'
      exact (no k' s2 e2 a2 a4').elim
    · rw [if_neg e1] at a3'; rw [if_pos e2] at a4'
      cases a4'
      exact (no k s1 e1 a1 a3').elim
    · rw [if_neg e1] at a3'; rw [if_neg e2] at a4'
      rw [old k e1] at a1
      rw [old k' e2] at a2
      exact h.hc.inj k k' b1 s1 s2 a1 a2 a3' a4'
  · rw [old k (by omega)]; exact h.hc.free k (by omega)
  · show (if _ = _ then _ else _) = _
    rw [if_neg (by omega)]
    exact h.hc.fresh k (by omega)
theorem head_alloc {ro : Option Nat} {fl : Bool} (hro : fl = true → ro = none) {P : Program} {ops : Array Oper} {k : Nat} (hb : ordB fl ops (k + 1) = true) {Q : Exit → Act → World → Prop} (hQ : ∀ c a w, ¬ Q (.panic c) a w) {g : Gh} {β : Bt} {O : Nat → Prop} {H : Hp} {nx : Nat} {n : Nat × Nat × Nat} {f : Nat → Option AV} {rs : List AV}
    (hlex : Lex P ops H nx n (ops.toList.take k) f rs) {ok : Oper} {s : Nat} {Z : Array Value → Prop} {e : TypeId} (hok : ops[k]? = some ok) (hnf : floB ok = false) (hgd : ok.guard = none) (hds : ok.dst = some s) (hsn : s < n.1)
    (hrun : ∀ (ev : Operand → Value) (w : World), ∃ arr, Z arr ∧ (execOp ev ok).run P w = .ok (.value (ptr0 w.heap.size)) (w.alloc (.cells arr e)))
    (htail : ∀ (arr : Array Value) (b : Nat) (O' : Nat → Prop) a w, Z arr → O' b → ¬ g.B0 b → (∀ b', g.O0 b' → g.B0 b') → Cf (gal g b (Obj.cells arr e (0, 0))) β O' (updF (foldX (fun _ => true) 0 (ops.toList.take k) rs f) (some s) (.v (ptr0 b))) H nx n a w → wpListIn (Fn ro) 0 P ops Q (ops.toList.drop (k + 1)) a w) :
    ∀ (fuel : Nat) (L : Array Bool) (a : Act) (w : World), Closed ops L → (∀ i, k + 1 ≤ i → L.getD i false = false) → ops.size ≤ fuel + (L.toList.countP (· == true)) →
      ((L.getD k false = false ∧ Cf g β O (foldX (fun i => L.getD i false) 0 (ops.toList.take k) rs f) H nx n a w) ∨
        (L.getD k false = true ∧ ∃ (arr : Array Value) (b : Nat) (O' : Nat → Prop), Z arr ∧ O' b ∧ ¬ g.B0 b ∧ (∀ b', g.O0 b' → g.B0 b') ∧ Cf (gal g b (Obj.cells arr e (0, 0))) β O' (updF (foldX (fun i => L.getD i false) 0 (ops.toList.take k) rs f) (some s) (.v (ptr0 b))) H nx n a w)) →
      wpAnyIn (Fn ro) 0 P .any ops Q fuel L a w := by
  obtain ⟨hlen, hat⟩ := hlex.at 0
  have hle := ordB_le hb
  have hget : ∀ i, i < k → ∀ o, ops[i]? = some o → (ops.toList.take k)[i]? = some o := fun i hi o ho => by
    rw [List.getElem?_take_of_lt hi]; simpa using ho
  have hgetk : ∀ i o, (ops.toList.take k)[i]? = some o → i < k ∧ ops[i]? = some o := fun i o ho => by
    have hi : i < k := by
      have := (List.getElem?_eq_some_iff.1 ho).1
      simp at this; omega
    exact ⟨hi, by rw [List.getElem?_take_of_lt hi] at ho; simpa using ho⟩
  intro fuel
  induction fuel with
  | zero =>
    intro L a w hc hhead hcount hcf
    have hall : ∀ i, i < ops.size → L.getD i false = true := by
      intro i hi
      have h1 : L.toList.countP (· == true) = L.toList.length := by
        have := List.countP_le_length (p := (· == true)) (l := L.toList)
        have h2 : L.toList.length = ops.size := by rw [Array.length_toList, hc.1]
        omega
      rw [List.countP_eq_length] at h1
      have hi' : i < L.size := by rw [hc.1]; exact hi
      have := h1 L[i] (by simp)
      rw [Array.getD_eq_getD_getElem?, Array.getElem?_eq_getElem hi']
      simpa using this
    have hh : k + 1 = ops.size := by
      rcases Nat.lt_or_ge (k + 1) ops.size with h' | h'
      · have h1 := hall (k + 1) h'
        rw [hhead (k + 1) (Nat.le_refl _)] at h1
        cases h1
      · omega
    have hk1 := hall k (by omega)
    rcases hcf with ⟨h0, _⟩ | ⟨_, arr, b, O', q0, q1, q2, q3, hcf⟩
    · rw [hk1] at h0; cases h0
    refine tail_any hb [] ops.size 0 L a w (by omega) (fun j => by simp) hc (fun i hi => by rw [hall i hi]; simp [hi]) (by simp) ?_
    have := htail arr b O' a w q0 q1 q2 q3 (by
      rw [foldX_congr (X := fun _ => true) (Y := fun i => L.getD i false) _ _ _ _ (fun i _ hi => by
        rw [hall i (by simp at hi; omega)])]
      exact hcf)
    rwa [List.drop_of_length_le (by simp; omega)] at this
  | succ fuel ih =>
    intro L a w hc hhead hcount hcf
    by_cases hall : ∀ i, i < k + 1 → L.getD i false = true
    · have hL : ∀ i, i < ops.size → L.getD i false = decide (i < k + 1) := by
        intro i hi
        by_cases hih : i < k + 1
        · rw [hall i hih]; simp [hih]
        · rw [hhead i (by omega)]; simp [hih]
      have hcnt : L.toList.countP (· == true) ≤ k + 1 := by
        have e : L.toList = (L.toList.take (k + 1)) ++ (L.toList.drop (k + 1)) := (List.take_append_drop (k + 1) _).symm
        rw [e, List.countP_append]
        have h1 : (L.toList.take (k + 1)).countP (· == true) ≤ k + 1 := Nat.le_trans (List.countP_le_length) (by rw [List.length_take]; exact Nat.min_le_left _ _)
        have h2 : (L.toList.drop (k + 1)).countP (· == true) = 0 := by
          rw [List.countP_eq_zero]
          intro x hx
          obtain ⟨i, hi⟩ := List.mem_iff_getElem?.1 hx
          rw [List.getElem?_drop] at hi
          have h3 := hhead (k + 1 + i) (by omega)
          rw [Array.getD_eq_getD_getElem?, ← Array.getElem?_toList, hi] at h3
          simpa using h3
        omega
      have hk1 := hall k (by omega)
      rcases hcf with ⟨h0, _⟩ | ⟨_, arr, b, O', q0, q1, q2, q3, hcf⟩
      · rw [hk1] at h0; cases h0
      refine tail_any hb (ops.toList.drop (k + 1)) (k + 1) (fuel + 1) L a w (Nat.le_refl _) (fun j => by rw [List.getElem?_drop]; simp) hc hL (by simp; omega) (htail arr b O' a w q0 q1 q2 q3 ?_)
      rw [foldX_congr (X := fun _ => true) (Y := fun i => L.getD i false) _ _ _ _ (fun i _ hi => by
        rw [hall i (by simp at hi; omega)])]
      exact hcf
    · have hne : ∃ i, i < k + 1 ∧ L.getD i false = false := by
        apply Classical.byContradiction
        intro hcon
        exact hall fun i hi => by
          cases hq : L.getD i false with
          | true => rfl
          | false => exact absurd ⟨i, hi, hq⟩ hcon
      obtain ⟨m, hm, hml⟩ := hne
      have hcntS : ∀ i, i < ops.size → L.getD i false = false → ops.size ≤ fuel + ((L.setIfInBounds i true).toList.countP (· == true)) := fun i hisz huf => by
        have hi' : i < L.size := by rw [hc.1]; exact hisz
        have hcnt : (L.setIfInBounds i true).toList.countP (· == true) = L.toList.countP (· == true) + 1 := by
          have hli : L.toList[i]'(by simpa using hi') = false := by
            rw [Array.getD_eq_getD_getElem?, Array.getElem?_eq_getElem hi'] at huf
            simpa using huf
          rw [Array.toList_setIfInBounds, List.countP_set (h := by simpa using hi'), hli]
          simp
        rw [hcnt]; omega
      have hheadS : ∀ i, i < k + 1 → ∀ j, k + 1 ≤ j → (L.setIfInBounds i true).getD j false = false := fun i hi j hj => by
        rw [Array.getD_eq_getD_getElem?, Array.getElem?_setIfInBounds_ne (by omega), ← Array.getD_eq_getD_getElem?]
        exact hhead j hj
      have hsetD : ∀ i j, i < ops.size → (L.setIfInBounds i true).getD j false = (L.getD j false || j == i) := fun i j hi => by
        rw [Array.getD_eq_getD_getElem?, Array.getElem?_setIfInBounds]
        by_cases hij : i = j
        · subst hij
          rw [if_pos rfl, if_pos (by rw [hc.1]; exact hi)]
          simp
        · rw [if_neg hij, ← Array.getD_eq_getD_getElem?]
          have : (j == i) = false := by simp; omega
          rw [this, Bool.or_false]
      have see : ∀ i o, i < k → ops[i]? = some o → L.getD i false = false → (∀ e ∈ o.after, Region.binds .any e = true → L.getD e.on false = true) →
          ∃ r, rs[i]? = some r ∧ dOk n o.dst ∧ Yf P ops H nx o (foldX (fun i => L.getD i false) 0 (ops.toList.take k) rs f) r ∧
            foldX (fun j => (L.setIfInBounds i true).getD j false) 0 (ops.toList.take k) rs f = updF (foldX (fun i => L.getD i false) 0 (ops.toList.take k) rs f) o.dst r := by
        intro i o hik' ho huf hp
        have hisz : i < ops.size := (Array.getElem?_eq_some_iff.1 ho).1
        obtain ⟨r, hr, hd, hy⟩ := hat i o (hget i hik' o ho)
        have hsame : ∀ t, t ∈ o.looksAt ops → foldX (fun j => decide (j < 0 + i)) 0 (ops.toList.take k) rs f t = foldX (fun i => L.getD i false) 0 (ops.toList.take k) rs f t := by
          refine fun t ht => ?_
          refine foldX_at _ _ _ _ _ (fun j oj hj hdst => ?_) rfl
          simp only [Nat.zero_add]
          obtain ⟨hjh, hoj⟩ := hgetk j oj hj
          rcases Nat.lt_trichotomy j i with hji | hji | hji
          · have e : decide (j < i) = true := by simpa using hji
            rw [e]
            rcases ordB_pair hb ho hoj hji with hbit | ⟨_, hap⟩ | ⟨_, _, _, hap⟩
            · exact (closed_anc hb hc i o ho hp j hbit).symm
            · exact absurd ht ((Oper.apart_spec hap).1 t hdst)
            · exact absurd ht ((Oper.apart_spec hap).1 t hdst)
          · subst hji
            rw [huf]; simp
          · have e : decide (j < i) = false := by simp; omega
            rw [e]
            cases hq : L.getD j false with
            | false => rfl
            | true =>
              rcases ordB_pair hb hoj ho hji with hbit | ⟨_, hap⟩ | ⟨_, _, _, hap⟩
              · have := closed_anc hb hc j oj hoj (hc.2 j oj hoj hq) i hbit
                rw [huf] at this
                cases this
              · exact absurd ht ((Oper.apart_spec hap).2.2 t hdst)
              · exact absurd ht ((Oper.apart_spec hap).2.2 t hdst)
        refine ⟨r, hr, hd, ⟨hy.1.congr hsame, fun hfl => (hy.2 hfl).congr hsame⟩, ?_⟩
        rw [foldX_congr (X := fun j => (L.setIfInBounds i true).getD j false) (Y := fun j => L.getD j false || j == 0 + i) _ _ _ _ (fun j _ _ => by rw [hsetD i j hisz, Nat.zero_add])]
        refine foldX_put _ _ 0 i o r f _ (hget i hik' o ho) hr (by simpa using huf) (fun j oj hj hij hX d hdo hdj => ?_)
        simp only [Nat.zero_add] at hX
        obtain ⟨hjh, hoj⟩ := hgetk j oj hj
        rcases ordB_pair hb hoj ho hij with hbit | ⟨_, hap⟩ | ⟨_, _, _, hap⟩
        · have := closed_anc hb hc j oj hoj (hc.2 j oj hoj hX) i hbit
          rw [huf] at this
          cases this
        · exact (Oper.apart_spec hap).2.1 d hdo hdj
        · exact (Oper.apart_spec hap).2.1 d hdo hdj
      have later : ∀ i o r, i < k → ops[i]? = some o → L.getD i false = false → L.getD k false = true → ∀ b,
          (∀ t, t ∈ o.looksAt ops → foldX (fun i => L.getD i false) 0 (ops.toList.take k) rs f t = updF (foldX (fun i => L.getD i false) 0 (ops.toList.take k) rs f) (some s) (.v (ptr0 b)) t) ∧
          updF (updF (foldX (fun i => L.getD i false) 0 (ops.toList.take k) rs f) (some s) (.v (ptr0 b))) o.dst r = updF (updF (foldX (fun i => L.getD i false) 0 (ops.toList.take k) rs f) o.dst r) (some s) (.v (ptr0 b)) := by
        intro i o r hik' ho huf h0 b
        have hap : o.apart ops ok = true := by
          rcases ordB_pair hb hok ho hik' with hbit | ⟨_, hap⟩ | ⟨_, _, _, hap⟩
          · have := closed_anc hb hc k ok hok (hc.2 k ok hok h0) i hbit
            rw [huf] at this
            cases this
          · exact hap
          · exact hap
        refine ⟨fun t ht => ?_, ?_⟩
        · have hst : s ≠ t := fun e => by subst e; exact (Oper.apart_spec hap).2.2 s hds ht
          simp only [updF]
          rw [show (s == t) = false by simpa using hst, cond_false]
        · cases hdo : o.dst with
          | none => rfl
          | some d =>
            have hne : d ≠ s := fun e => (Oper.apart_spec hap).2.1 d hdo (by rw [e]; exact hds)
            funext t
            simp only [updF]
            by_cases e1 : d = t
            · subst e1
              rw [show (s == d) = false by simpa using Ne.symm hne]
              simp
            · rw [show (d == t) = false by simpa using e1]
              simp
      have hkset : ∀ i, i < k → i < ops.size → (L.setIfInBounds i true).getD k false = L.getD k false := fun i hik' hisz => by
        rw [hsetD i k hisz]
        have : (k == i) = false := by simp; omega
        rw [this, Bool.or_false]
      by_cases hfloat : fl = true ∧ ∃ i o, i < k ∧ ops[i]? = some o ∧ i ∈ Region.ready .any ops L ∧ flB ops ops.toList ((ancs ops.toList []).getD i 0) i o = true
      · -- one that does not look at memory: first
        obtain ⟨hflt, i, o, hik', ho, hi, hfb⟩ := hfloat
        obtain ⟨o', ho', hu, hp⟩ := ready_pred hi
        rw [ho] at ho'; cases ho'
        have hisz : i < ops.size := (Array.getElem?_eq_some_iff.1 ho).1
        have huf : L.getD i false = false := by rw [getD_two (by rw [hc.1]; exact hisz) false true]; exact hu
        obtain ⟨r, hr, hd, hy, hfold⟩ := see i o hik' ho huf hp
        have hfo := flB_flo hfb
        have hwant : Region.wanted o (yielded ops a.tmps) = true := by simp [Region.wanted, floB_guard hfo]
        have hfree : ∀ (j : Nat) (oj : Oper), ops[j]? = some oj → j ≠ i → L.getD j true = false → (∀ e ∈ oj.after, Region.binds .any e = true → e.on ≠ i) → o.apart ops oj = true := fun j oj hj hji hun hno => by
          rcases flB_spec hfb hj hji with h1 | ⟨e, he, hbd, hon⟩ | h1
          · have h2 := closed_anc hb hc i o ho hp j h1
            rw [getD_two (by rw [hc.1]; exact (Array.getElem?_eq_some_iff.1 hj).1) false true, hun] at h2
            cases h2
          · exact absurd hon (hno e he hbd)
          · exact h1
        rcases hcf with ⟨h0, hcf⟩ | ⟨h0, arr, b, O', q0, q1, q2, q3, hcf⟩
        · obtain ⟨u, hrun, hru⟩ := hy.2 hfo β O w a.eval (fun x _ => hcf.ge x)
          refine wpAnyIn_first (oi := o) (v := u) (by rw [Fn_round]; exact hro hflt) ho (ordB_sel hb hflt) (fun c a w hq => absurd hq (hQ c _ w)) fuel L a w hfree hi ⟨.inl ⟨hwant, hrun⟩, fun w => floB_about hfo P w _⟩ ?_
          exact ih _ _ _ (closed_set hc hi) (hheadS i (by omega)) (hcntS i hisz huf) (.inl ⟨by rw [hkset i hik' hisz]; exact h0, by rw [hfold]; exact hcf.put hd hru⟩)
        · obtain ⟨hcg, hswap⟩ := later i o r hik' ho huf h0 b
          obtain ⟨u, hrun, hru⟩ := (hy.2 hfo).congr hcg β O' w a.eval (fun x _ => hcf.ge x)
          refine wpAnyIn_first (oi := o) (v := u) (by rw [Fn_round]; exact hro hflt) ho (ordB_sel hb hflt) (fun c a w hq => absurd hq (hQ c _ w)) fuel L a w hfree hi ⟨.inl ⟨hwant, hrun⟩, fun w => floB_about hfo P w _⟩ ?_
          exact ih _ _ _ (closed_set hc hi) (hheadS i (by omega)) (hcntS i hisz huf) (.inr ⟨by rw [hkset i hik' hisz]; exact h0, arr, b, O', q0, q1, q2, q3, by rw [hfold, ← hswap]; exact hcf.put hd hru⟩)
      refine ⟨fun hn => absurd hn (ready_of_left hb hc.1 m (by omega) hml), fun i hi => ?_⟩
      obtain ⟨o, ho, hu, hp⟩ := ready_pred hi
      have hisz : i < ops.size := (Array.getElem?_eq_some_iff.1 ho).1
      have huf : L.getD i false = false := by rw [getD_two (by rw [hc.1]; exact hisz) false true]; exact hu
      have hih : i < k + 1 := by
        rcases Nat.lt_or_ge i (k + 1) with h' | h'
        · exact h'
        · exfalso
          have hleft : ∀ m, m < k + 1 → L.getD m false = false → ∃ om, ops[m]? = some om ∧ fl = true ∧ flB ops ops.toList ((ancs ops.toList []).getD m 0) m om = true := by
            intro m hm hml
            have hmo := Array.getElem?_eq_getElem (show m < ops.size by omega)
            rcases ordB_pair hb ho hmo (show m < i by omega) with hbit | ⟨hbad, _⟩ | ⟨h1, _, h2, _⟩
            · have := closed_anc hb hc i o ho hp m hbit
              rw [hml] at this
              cases this
            · omega
            · exact ⟨_, hmo, h1, h2⟩
          have hfirst : ∀ m, m < k + 1 → L.getD m false = false → ∃ i o, i < k ∧ ops[i]? = some o ∧ i ∈ Region.ready .any ops L ∧ flB ops ops.toList ((ancs ops.toList []).getD i 0) i o = true := by
            intro m
            induction m using Nat.strongRecOn with
            | _ m ihm =>
              intro hm hml
              obtain ⟨om, hom, _, h2⟩ := hleft m hm hml
              by_cases hp' : ∃ e ∈ om.after, Region.binds .any e = true ∧ L.getD e.on false = false
              · obtain ⟨e, he, hbd, hf'⟩ := hp'
                have hlt := ordB_pred hb hom he hbd
                exact ihm e.on hlt (by omega) hf'
              · refine ⟨m, om, ?_, hom, mem_ready.2 ⟨by rw [getD_two (by rw [hc.1]; omega) true false]; exact hml, om, hom, fun e he hbd => by
                  cases hq : L.getD e.on false with
                  | true => rfl
                  | false => exact absurd ⟨e, he, hbd, hq⟩ hp'⟩, h2⟩
                rcases Nat.lt_or_ge m k with h3 | h3
                · exact h3
                · exfalso
                  have hmk : m = k := by omega
                  rw [hmk, hok] at hom
                  cases hom
                  rw [flB_flo h2] at hnf
                  cases hnf
          obtain ⟨_, _, hflt, _⟩ := hleft m hm hml
          exact hfloat ⟨hflt, hfirst m hm hml⟩
      unfold wpOpIn
      rw [ho]
      simp only
      by_cases hik : i = k
      · -- the allocation
        subst hik
        rw [hok] at ho
        cases ho
        have hwant : Region.wanted ok (yielded ops a.tmps) = true := by simp [Region.wanted, hgd]
        rw [if_pos hwant]
        rcases hcf with ⟨h0, hcf⟩ | ⟨h0, _⟩
        case inr => rw [huf] at h0; cases h0
        refine wpIn_run ?_
        obtain ⟨arr, hZ, hrn⟩ := hrun a.eval w
        rw [hrn]
        have hal := al_in hcf hsn arr e
        show wpAnyIn (Fn ro) 0 P .any ops Q fuel (L.setIfInBounds i true) (a.put ok.dst (ptr0 w.heap.size)) (w.alloc (.cells arr e))
        rw [hds]
        refine ih (L.setIfInBounds i true) (a.put (some s) (ptr0 w.heap.size)) (w.alloc (.cells arr e)) (closed_set hc hi) (hheadS i hih) (hcntS i hisz huf) (Or.inr ⟨by rw [hsetD i i hisz]; simp, arr, w.heap.size, (fun b => O b ∨ b = w.heap.size), hZ, Or.inr rfl, fun hbb => by have := hcf.b0 _ hbb; omega, fun b' hb' => (hcf.hc.base b' hb').2, ?_⟩)
        rw [foldX_congr (X := fun j => (L.setIfInBounds i true).getD j false) (Y := fun j => L.getD j false) _ _ _ _ (fun j _ hj => by
          have hjk : j < i := by simp at hj; omega
          rw [hsetD i j hisz]
          have : (j == i) = false := by simp; omega
          rw [this, Bool.or_false])]
        exact hal
      · have hik' : i < k := by omega
        obtain ⟨r, hr, hd, hy, hfold⟩ := see i o hik' ho huf hp
        rcases hcf with ⟨h0, hcf⟩ | ⟨h0, arr, b, O', q0, q1, q2, q3, hcf⟩
        · have hop : opAt ro P ops Q o (wpAnyIn (Fn ro) 0 P .any ops Q fuel (L.setIfInBounds i true)) a w := hy.1.opAt hcf hd fun a' w' hcf' =>
            ih _ a' w' (closed_set hc hi) (hheadS i hih) (hcntS i hisz huf) (.inl ⟨by rw [hkset i hik' hisz]; exact h0, by rw [hfold]; exact hcf'⟩)
          exact hop
        · obtain ⟨hcg, hswap⟩ := later i o r hik' ho huf h0 b
          have hop : opAt ro P ops Q o (wpAnyIn (Fn ro) 0 P .any ops Q fuel (L.setIfInBounds i true)) a w := (hy.1.congr hcg).opAt hcf hd fun a' w' hcf' =>
            ih _ a' w' (closed_set hc hi) (hheadS i hih) (hcntS i hisz huf) (.inr ⟨by rw [hkset i hik' hisz]; exact h0, arr, b, O', q0, q1, q2, q3, by rw [hfold, ← hswap]; exact hcf'⟩)
          exact hop
def allocB (fl : Bool) (mu : List Nat) (l : List Oper) (k : Nat) : Bool := ordB fl l.toArray (k + 1) && ((l.take k).all fun o => !isMut mu o) && match l[k]? with
  | some o => o.guard.isNone && isMut mu o && o.dst.isSome && (match o.op with
    | .alloc _ => true
    | _ => false)
  | none => false
theorem vc_drawA {E : Ev} {mu : List Nat} {Q : Post} {σ : St} (hE : EvOk E) {fl : Bool} (hro : fl = true → E.ro = none) {id : Nat} {l : List Oper} (k : Nat) (hb : allocB fl mu l k = true) (h : ∀ K : St → Prop, (∀ σ', Q.n σ' → K σ') → wpA E mu l.toArray l σ K) : VC E mu (.region id l.toArray true) Q σ := by
  intro hY g β O a w hf hc
  simp only [allocB, Bool.and_eq_true, List.all_eq_true, Bool.not_eq_true'] at hb
  obtain ⟨⟨hb1, hb2⟩, hb3⟩ := hb
  cases hk : l[k]? with
  | none => rw [hk] at hb3; cases hb3
  | some ok =>
    rw [hk] at hb3
    simp only [Bool.and_eq_true, Option.isNone_iff_eq_none] at hb3
    obtain ⟨⟨⟨hg, hmut⟩, hsome⟩, hop⟩ := hb3
    have hkl : k < l.length := (List.getElem?_eq_some_iff.1 hk).1
    have hsplit : l = l.take k ++ (ok :: l.drop (k + 1)) := by
      have : l.drop k = ok :: l.drop (k + 1) := by
        rw [List.drop_eq_getElem_cons hkl]
        congr 1
        exact (List.getElem?_eq_some_iff.1 hk).2
      rw [← this, List.take_append_drop]
    have h0 : wpA E mu l.toArray (l.take k ++ (ok :: l.drop (k + 1))) σ Q.n := by rw [← hsplit]; exact h Q.n fun _ h => h
    obtain ⟨rs, σ', h1, h2, h3, h4, h5, h6⟩ := wpA_lex hE (l.take k) (ok :: l.drop (k + 1)) σ Q.n (fun o ho => hb2 o ho) h0
    obtain ⟨hd, h6⟩ := h6
    unfold gd at h6
    rw [hg] at h6
    dsimp only at h6
    rw [hmut, cond_true] at h6
    cases ho : ok.op <;> rw [ho] at hop <;> first | (exact Bool.noConfusion hop) | skip
    rename_i e
    simp only [mop, ho] at h6
    split at h6
    case h_2 => exact h6.elim
    rename_i ti ht
    split at h6
    case h_2 => exact h6.elim
    rename_i zs hz
    cases hds : ok.dst with
    | none => rw [hds] at hsome; cases hsome
    | some s =>
      have hsn : s < σ.n.1 := by
        have := hd
        rw [hds, h5] at this
        exact this
      refine wpIn_region_any hE.mix ?_
      have hdrew : Gr w { w with drawn := w.drawn + 1 } := (Gr.refl _).drew
      have hrep : ∀ i, (Array.replicate l.toArray.size false).getD i false = false := fun i => by
        rw [Array.getD_eq_getD_getElem?]
        simp only [Array.getElem?_replicate]
        split <;> rfl
      refine head_alloc hro (g := g) (β := β) (O := O) (ok := ok) (s := s) (e := e) (Z := fun arr => ∀ (β : Bt) (O : Nat → Prop) (w : World), Rs β O w zs arr) hb1 (fun c a w hq => hq) (by simpa using h1) (by simpa using hk) (by simp [floB, ho]) hg hds hsn (fun ev w => ?_) (fun arr b O' a w hZ hO hB hO0 hcf => ?_) l.toArray.size _ a _ ⟨by simp, fun i o _ hl => by rw [hrep] at hl; cases hl⟩ (fun i _ => hrep i) (by omega) (.inl ⟨hrep k, ?_⟩)
      · obtain ⟨z, z1, z2, z3⟩ := run_zero hE.T ht w
        exact ⟨z.cells, fun β O w => rs_zero_of (by rw [z2]; exact hz), by simp [execOp, ho, Instr.alloc, newVar, Go.newRow, z1]⟩
      · have hal := al_out (s := s) hcf hO hB hO0 (by simp [updF]) (hZ _ _ _)
        have hcn : Cn g (fun k => if k = σ.nx then some (some (b, 0)) else β k) O' (newRow σ' ok.dst zs fun j => .lp j 0) a w := by
          rw [newRow_cn, hds, h3, h4, h5]
          have e1 : updF (lk σ'.fr) (some s) (.lp σ.nx 0) = updF (updF (foldX (fun _ => true) 0 (l.toArray.toList.take k) rs (lk σ.fr)) (some s) (.v (ptr0 b))) (some s) (.lp σ.nx 0) := by
            funext t
            simp only [updF]
            by_cases es : s = t
            · subst es; simp
            · rw [show (s == t) = false by simpa using es, cond_false, cond_false, cond_false]
              exact h2 0 t
          rw [e1]
          exact hal
        have := wpA_ok (Q := PC E g Q) hE hY (l.drop (k + 1)) _ Q.n g _ O' a w (hf.n (by rw [hds]; exact h5)) hcn h6 (fun a' w' hq => hq)
        simpa using this
      · rw [foldX_none _ _ _ _ (fun i _ _ => hrep i)]
        exact hc.gr hdrew
theorem v_drawAF {E : Ev} {mu : List Nat} {N : St → Prop} {X : Nat → St → Prop} {R : St → Prop} {σ : St} (hE : EvOk E) {id : Nat} {l : List Oper} (hro : E.ro = none) (hb : allocB true mu l (headStill mu l) = true) (h : ∀ K : St → Prop, (∀ σ', N σ' → K σ') → wpA E mu l.toArray l σ K) : VC E mu (.region id l.toArray true) ⟨N, X, R⟩ σ := vc_drawA hE (fl := true) (fun _ => hro) _ hb h
end Go.Ab
set_option linter.unusedSimpArgs false
set_option linter.unusedVariables false
set_option linter.unusedSectionVars false
namespace Go.Ab
variable [Dr]
open Go.RowKit
section
variable {E : Ev} {o : Oper} {ge : Operand → AV} {H : Hp} {nx : Nat} {K : AV → Prop}
def floC (o : Oper) : Bool := o.guard.isNone && match o.op with
  | .indexAddr _ _ _ => true
  | .fieldAddr _ _ _ => true
  | _ => floB o
theorem floC_guard (h : floC o = true) : o.guard = none := by
  simp only [floC, Bool.and_eq_true, Option.isNone_iff_eq_none] at h
  exact h.1
theorem floC_split (h : floC o = true) : floB o = true ∨ (∃ t x i, o.op = .indexAddr t x i) ∨ ∃ t x f, o.op = .fieldAddr t x f := by
  simp only [floC, Bool.and_eq_true] at h
  cases ho : o.op <;> rw [ho] at h <;> first | exact .inl h.2 | exact .inr (.inl ⟨_, _, _, rfl⟩) | exact .inr (.inr ⟨_, _, _, rfl⟩)
theorem floC_about (h : floC o = true) (P : Program) (w : World) (ev : Operand → Value) : o.about P w ev = none := by
  rcases floC_split h with h | ⟨_, _, _, h⟩ | ⟨_, _, _, h⟩
  · exact floB_about h P w ev
  · unfold Oper.about; rw [h]
  · unfold Oper.about; rw [h]
theorem floC_ok (hE : EvOk E) (hc : floC o = true) (h : sop E o ge H nx K) : ∃ r, Flo E.P o ge r ∧ K r := by
  rcases floC_split hc with hb | ⟨t, x, i, ho⟩ | ⟨t, x, f, ho⟩
  · obtain ⟨r, _, h2, h3⟩ := flo_ok hE h
    exact ⟨r, h2 hb, h3⟩
  · simp only [sop, ho] at h
    exact floIndex hE ho h
  · simp only [sop, ho] at h
    exact floField hE ho h
end
inductive OT where
  | nil
  | cons (i : Nat) (sub rest : OT)
section
variable {E : Ev} {mu : List Nat} {ops : Array Oper} {Q : Exit → Act → World → Prop}
theorem count_set {L : Array Bool} {i : Nat} (hi : i < L.size) (hu : L.getD i true = false) : (L.setIfInBounds i true).toList.countP (· == true) = L.toList.countP (· == true) + 1 := by
  have hli : L.toList[i]'(by simpa using hi) = false := by
    rw [Array.getD_eq_getD_getElem?, Array.getElem?_eq_getElem hi] at hu
    simpa using hu
  rw [Array.toList_setIfInBounds, List.countP_set (h := by simpa using hi), hli]
  simp
theorem none_left {L : Array Bool} (hs : L.size = ops.size) (h : ops.size ≤ L.toList.countP (· == true)) : Region.ready .any ops L = [] := by
  cases hr : Region.ready .any ops L with
  | nil => rfl
  | cons i rest =>
    obtain ⟨o, ho, hu, _⟩ := ready_pred (L := L) (i := i) (by rw [hr]; simp)
    have hi : i < L.size := by rw [hs]; exact (Array.getElem?_eq_some_iff.1 ho).1
    have h1 : L.toList.countP (· == true) = L.toList.length := by
      have := List.countP_le_length (p := (· == true)) (l := L.toList)
      have h2 : L.toList.length = ops.size := by rw [Array.length_toList, hs]
      omega
    rw [List.countP_eq_length] at h1
    have := h1 L[i] (by simp)
    rw [Array.getD_eq_getD_getElem?, Array.getElem?_eq_getElem hi] at hu
    simp at hu this
    rw [hu] at this
    cases this
def firstB (mu : List Nat) (ops : Array Oper) : List Nat → Array Bool → Bool
  | [], _ => true
  | i :: fs, L => (match ops[i]? with
    | none => false
    | some oi => floC oi && !isMut mu oi && (Region.ready .any ops L).contains i && (List.range ops.size).all fun j => j == i || L.getD j true || (match ops[j]? with
      | none => true
      | some oj => oj.after.toList.any (fun e => Region.binds .any e && e.on == i) || oi.apart ops oj)) && firstB mu ops fs (L.setIfInBounds i true)
def listed (fs : List Nat) (L : Array Bool) : Array Bool := fs.foldl (fun L i => L.setIfInBounds i true) L
theorem first_any (hE : EvOk E) (hro : E.ro = none) (hsel : ∀ (j : Nat) (o : Oper) cs b, ops[j]? = some o → o.op ≠ .select cs b) (hQ : ∀ c a w, ¬ Q (.panic c) a w) {K1 : St → Prop} {g : Gh} :
    ∀ (fs : List Nat) (L : Array Bool) (fuel : Nat) (σ : St) (β : Bt) (O : Nat → Prop) (a : Act) (w : World), Fit E g σ → Cn g β O σ a w → firstB mu ops fs L = true → L.size = ops.size → ops.size ≤ fuel + L.toList.countP (· == true) →
      wpA E mu ops (fs.filterMap fun i => ops[i]?) σ K1 → (∀ fuel' σ' β' O' a' w', ops.size ≤ fuel' + (listed fs L).toList.countP (· == true) → (listed fs L).size = ops.size → Fit E g σ' → Cn g β' O' σ' a' w' → K1 σ' → wpAnyIn (Fn E.ro) 0 E.P .any ops Q fuel' (listed fs L) a' w') →
      wpAnyIn (Fn E.ro) 0 E.P .any ops Q fuel L a w
  | [], L, fuel, σ, β, O, a, w, hf, hc, _, hs, hcount, h, hn => hn fuel σ β O a w hcount hs hf hc h
  | i :: fs, L, fuel, σ, β, O, a, w, hf, hc, hb, hs, hcount, h, hn => by
    simp only [firstB, Bool.and_eq_true] at hb
    obtain ⟨hb1, hb2⟩ := hb
    cases ho : ops[i]? with
    | none => rw [ho] at hb1; cases hb1
    | some o =>
      rw [ho] at hb1
      simp only [Bool.and_eq_true, Bool.not_eq_true', List.all_eq_true, List.mem_range, Bool.or_eq_true, beq_iff_eq, List.contains_iff_mem] at hb1
      obtain ⟨⟨⟨c1, c2⟩, c3⟩, c4⟩ := hb1
      simp only [List.filterMap_cons, ho] at h
      obtain ⟨hd, h⟩ := h
      unfold gd at h
      rw [floC_guard c1] at h
      dsimp only at h
      rw [c2, cond_false] at h
      obtain ⟨r, hF, h⟩ := floC_ok hE c1 h
      obtain ⟨u, hrun, hru⟩ := hF β O w a.eval (fun x _ => hc.ge x)
      have hisz : i < L.size := by rw [hs]; exact (Array.getElem?_eq_some_iff.1 ho).1
      have hu := (mem_ready.1 c3).1
      have hwant : Region.wanted o (yielded ops a.tmps) = true := by simp [Region.wanted, floC_guard c1]
      have hnext := first_any hE hro hsel hQ fs (L.setIfInBounds i true) (fuel - 1) (σ.put o.dst r) β O (a.put o.dst u) w (hf.n (put_n _ _ _)) (Cn.put hd hru hc) hb2 (by simpa using hs) (by rw [count_set hisz hu]; omega) h hn
      cases fuel with
      | zero =>
        have := none_left hs (by omega)
        rw [this] at c3
        cases c3
      | succ fuel =>
        refine wpAnyIn_first (oi := o) (v := u) (by rw [Fn_round]; exact hro) ho hsel (fun c a w hq => absurd hq (hQ c _ w)) fuel L a w (fun j oj hj hji hun hno => ?_) c3 ⟨.inl ⟨hwant, hrun⟩, fun w => floC_about c1 E.P w _⟩ hnext
        rcases c4 j (Array.getElem?_eq_some_iff.1 hj).1 with (h1 | h1) | h1
        · exact absurd h1 hji
        · rw [hun] at h1; cases h1
        · rw [hj] at h1
          simp only [Bool.or_eq_true, List.any_eq_true, Bool.and_eq_true, beq_iff_eq] at h1
          rcases h1 with ⟨e, he, h2, h3⟩ | h1
          · exact absurd h3 (hno e (by simpa using he) h2)
          · exact h1
end
end Go.Ab
set_option linter.unusedSimpArgs false
set_option linter.unusedVariables false
set_option linter.unusedSectionVars false
namespace Go.Ab
variable [Dr]
open Go.RowKit
section
variable {lt : Nat} {ops : Array Oper} {h : Nat}
end
end Go.Ab
set_option maxRecDepth 100000
set_option maxHeartbeats 4000000
set_option linter.unusedSimpArgs false
set_option linter.unusedVariables false
set_option linter.unusedSectionVars false
namespace Go.Proofs.YtpdecefdhkhlnaaGreatDoor
open Go.Ab Go.RowKit
variable [Dr]
def strs (l : List ByteArray) : List AV := l.map fun s => .v (.string s)
abbrev ssl (l : List ByteArray) : AV := .sl 1 l.length (strs l)
theorem strs_len (l : List ByteArray) : (strs l).length = l.length := by simp [strs]
theorem strs_plain : ∀ l : List ByteArray, plainL (strs l) = true
  | [] => rfl
  | s :: l => by
    have := strs_plain l
    unfold strs at *
    simp only [List.map_cons, plainL, AV.plain, this, Bool.and_self]
theorem strs_one : ∀ l : List ByteArray, oneL (strs l) = true
  | [] => rfl
  | s :: l => by
    have := strs_one l
    unfold oneL strs at *
    rw [List.map_cons, List.all_cons, this]
    rfl
theorem strs_snoc (l : List ByteArray) (s : ByteArray) : strs l ++ [.v (.string s)] = strs (l ++ [s]) := by simp [strs]
theorem byteAt_b (s : ByteArray) (i : Nat) : 0 ≤ (byteAt s i : Int) ∧ (byteAt s i : Int) ≤ 255 := by
  unfold byteAt
  have := (s.data.toList.getD i 0).toNat_lt
  exact ⟨by omega, by omega⟩
end Go.Proofs.YtpdecefdhkhlnaaGreatDoor
set_option linter.unusedVariables false
set_option linter.unusedSimpArgs false
namespace Go.Proofs.YtpdecefdhkhlnaaGreatDoor
open Go Go.Lib
theorem dig_of (d : Nat) (h : d < 10) : digitVal (UInt8.ofNat (48 + d)) = some d ∧ (UInt8.ofNat (48 + d)).toNat = 48 + d := by
  have h1 : (UInt8.ofNat (48 + d)).toNat = 48 + d := by
    rw [UInt8.toNat_ofNat']; omega
  refine ⟨?_, h1⟩
  unfold digitVal
  rw [h1, if_pos (by omega)]
  congr 1
  omega
theorem ofNat_dig {b : UInt8} {d : Nat} (h : digitVal b = some d) : UInt8.ofNat (48 + d) = b ∧ d < 10 := by
  obtain ⟨h1, h2, h3⟩ := digitVal_eq h
  refine ⟨?_, by omega⟩
  have : 48 + d = b.toNat := by omega
  rw [this]
  exact UInt8.ofNat_toNat
theorem decFrom_append : ∀ (l : List UInt8) (acc : Nat) (b : UInt8), decFrom acc (l ++ [b]) = (decFrom acc l).bind fun n => (digitVal b).map fun d => n * 10 + d
  | [], acc, b => by
    simp only [List.nil_append, decFrom, Option.bind_some]
    cases digitVal b <;> rfl
  | c :: l, acc, b => by
    simp only [List.cons_append, decFrom]
    cases digitVal c with
    | none => rfl
    | some d => exact decFrom_append l _ b
theorem decFrom_digits (u : Nat) : decFrom 0 (decDigits u) = some u := by
  induction u using Nat.strongRecOn with
  | _ u ih =>
    rw [decDigits]
    split
    · rename_i h
      simp only [decFrom, (dig_of u h).1]
      congr 1
      omega
    · rename_i h
      rw [decFrom_append, ih (u / 10) (by omega), (dig_of (u % 10) (by omega)).1]
      simp only [Option.bind_some, Option.map_some, Option.some.injEq]
      omega
theorem digits_ne (u : Nat) : decDigits u ≠ [] := by
  rw [decDigits]
  split
  · simp
  · simp
theorem digits_head (u : Nat) (hu : 1 ≤ u) : ∃ b r, decDigits u = b :: r ∧ 49 ≤ b.toNat ∧ b.toNat ≤ 57 := by
  induction u using Nat.strongRecOn with
  | _ u ih =>
    rw [decDigits]
    split
    · rename_i h
      exact ⟨_, [], rfl, by rw [(dig_of u h).2]; omega, by rw [(dig_of u h).2]; omega⟩
    · rename_i h
      obtain ⟨b, r, h1, h2, h3⟩ := ih (u / 10) (by omega) (by omega)
      exact ⟨b, r ++ [UInt8.ofNat (48 + u % 10)], by rw [h1]; rfl, h2, h3⟩
theorem digits_zero : decDigits 0 = [48] := by rw [decDigits]; rfl
theorem decFrom_pos : ∀ (l : List UInt8) (acc n : Nat), decFrom acc l = some n → 1 ≤ acc → 1 ≤ n
  | [], acc, n, h, ha => by simp only [decFrom, Option.some.injEq] at h; omega
  | b :: l, acc, n, h, ha => by
    simp only [decFrom] at h
    cases hd : digitVal b with
    | none => rw [hd] at h; cases h
    | some d => rw [hd] at h; exact decFrom_pos l _ n h (by omega)
theorem digits_of (l : List UInt8) : ∀ n : Nat, decFrom 0 l = some n → l ≠ [] → (l.head? = some 48 → l.length = 1) → decDigits n = l := by
  induction hl : l.length using Nat.strongRecOn generalizing l with
  | _ k ih =>
    intro n h hne hz
    rcases List.eq_nil_or_concat l with rfl | ⟨r, b, rfl⟩
    · exact absurd rfl hne
    · rw [List.concat_eq_append] at *
      rw [decFrom_append] at h
      cases hr : decFrom 0 r with
      | none => rw [hr] at h; cases h
      | some m =>
        rw [hr] at h
        cases hb : digitVal b with
        | none => rw [hb] at h; cases h
        | some d =>
          rw [hb] at h
          simp only [Option.bind_some, Option.map_some, Option.some.injEq] at h
          obtain ⟨hbe, hd⟩ := ofNat_dig hb
          by_cases hr0 : r = []
          · subst hr0
            simp only [decFrom, Option.some.injEq] at hr
            have hn : n = d := by omega
            subst hn
            rw [decDigits, dif_pos hd, hbe]; rfl
          · have hm : 1 ≤ m := by
              cases r with
              | nil => exact absurd rfl hr0
              | cons c r =>
                simp only [decFrom] at hr
                cases hc : digitVal c with
                | none => rw [hc] at hr; cases hr
                | some e =>
                  rw [hc] at hr
                  refine decFrom_pos r _ m hr ?_
                  have hc0 : c ≠ 48 := fun e0 => by
                    have := hz (by simp [e0])
                    rw [← hl] at this
                    simp at this
                  obtain ⟨g1, g2, g3⟩ := digitVal_eq hc
                  have : c.toNat ≠ 48 := fun e0 => hc0 (UInt8.toNat_inj.1 e0)
                  omega
            have hdr := ih r.length (by rw [← hl]; simp) r rfl m hr hr0 (fun h48 => by
              cases r with
              | nil => exact absurd rfl hr0
              | cons c r =>
                have := hz (by simpa using h48)
                rw [← hl] at this
                simp at this)
            rw [decDigits, dif_neg (by omega), show n / 10 = m by omega, show n % 10 = d by omega, hdr, hbe]
def numR (D : Nat) (l : List UInt8) : Option Int :=
  let at' := if l.head? = some 45 then 1 else 0
  if l.length = at' ∨ D < l.length - at' ∨ (l[at']? = some 48 ∧ 1 < l.length) then none
  else (decFrom 0 (l.drop at')).map fun (u : Nat) => if at' = 1 then -(u : Int) else (u : Int)
def numP (D : Nat) (l : List UInt8) : Bool := match atoiAll l with
  | .ok v => decide (itoa v = l) && decide ((trimPrefix l [45]).length ≤ D)
  | _ => false
def numV (l : List UInt8) : Int := match atoiAll l with
  | .ok v => v
  | .range => atoiSat l
  | _ => 0
theorem atoi_itoa {u : Nat} : atoi (itoa (u : Int)) = some (u : Int) ∧ (1 ≤ u → atoi (itoa (-(u : Int))) = some (-(u : Int))) := by
  have hp : ∀ l : List UInt8, l ≠ [] → decNat l = decFrom 0 l := fun l h => by
    unfold decNat
    cases l with
    | nil => exact absurd rfl h
    | cons a r => rfl
  constructor
  · unfold itoa
    rw [if_neg (by omega), Int.toNat_natCast]
    by_cases h0 : u = 0
    · subst h0; rw [digits_zero]; rfl
    · obtain ⟨b, r, h1, h2, h3⟩ := digits_head u (by omega)
      have hb1 : (b == 45) = false := by rw [beq_eq_false_iff_ne]; intro e; subst e; simp at h2
      have hb2 : (b == 43) = false := by rw [beq_eq_false_iff_ne]; intro e; subst e; simp at h2
      rw [h1]
      unfold atoi
      simp only [hb1, hb2, Bool.false_eq_true, if_false]
      rw [hp _ (by simp), ← h1, decFrom_digits]; rfl
  · intro h1
    unfold itoa
    rw [if_pos (by omega)]
    unfold atoi
    simp only [beq_self_eq_true, if_true]
    rw [show (-(u : Int)).natAbs = u by omega, hp _ (digits_ne u), decFrom_digits]; rfl
theorem trim_minus (r : List UInt8) : trimPrefix (45 :: r) [45] = r := by simp [trimPrefix, hasPrefix]
theorem trim_other {l : List UInt8} (h : l.head? ≠ some 45) : trimPrefix l [45] = l := by
  unfold trimPrefix hasPrefix
  cases l with
  | nil => rfl
  | cons a r =>
    have : (45 == a) = false := by rw [beq_eq_false_iff_ne]; intro e; subst e; simp at h
    simp [List.isPrefixOf, this]
theorem num_same {D : Nat} (hD : D ≤ 17) (l : List UInt8) : (numP D l = true ↔ ∃ v, numR D l = some v) ∧ ∀ v, numR D l = some v → numV l = v := by
  have hfw : ∀ v, numR D l = some v → atoiAll l = .ok v ∧ itoa v = l ∧ (trimPrefix l [45]).length ≤ D := by
    intro v h
    unfold numR at h
    by_cases h45 : l.head? = some 45
    · obtain ⟨r, rfl⟩ : ∃ r, l = 45 :: r := by
        cases l with
        | nil => cases h45
        | cons a r => simp at h45; exact ⟨r, by rw [h45]⟩
      simp only [List.head?_cons, if_true, List.length_cons, List.drop_succ_cons, List.drop_zero, List.getElem?_cons_succ] at h
      split at h
      · cases h
      · rename_i hc
        rw [not_or, not_or] at hc
        obtain ⟨c1, c2, c3⟩ := hc
        cases hu : decFrom 0 r with
        | none => rw [hu] at h; cases h
        | some u =>
          rw [hu] at h
          simp only [Option.map_some, Option.some.injEq] at h
          have hne : r ≠ [] := fun e => by subst e; simp at c1
          have hz : r.head? ≠ some 48 := fun e => by
            refine c3 ⟨?_, ?_⟩
            · cases r with
              | nil => cases e
              | cons a r => simpa using e
            · have : r.length ≠ 0 := fun e => hne (List.eq_nil_of_length_eq_zero e)
              omega
          have hdg := digits_of r u hu hne (fun e => absurd e hz)
          have hu1 : 1 ≤ u := by
            rcases Nat.eq_zero_or_pos u with rfl | h
            · rw [digits_zero] at hdg; subst hdg; simp at hz
            · exact h
          subst h
          have hit : itoa (-(u : Int)) = 45 :: r := by
            unfold itoa
            rw [if_pos (by omega), show (-(u : Int)).natAbs = u by omega, hdg]
          refine ⟨?_, hit, by rw [trim_minus]; omega⟩
          rw [atoiAll_short _ (by simp; omega), ← hit, atoi_itoa.2 hu1]; rfl
    · simp only [h45, if_false, List.drop_zero, Nat.sub_zero] at h
      split at h
      · cases h
      · rename_i hc
        rw [not_or, not_or] at hc
        obtain ⟨c1, c2, c3⟩ := hc
        cases hu : decFrom 0 l with
        | none => rw [hu] at h; cases h
        | some u =>
          rw [hu] at h
          simp only [Option.map_some, Option.some.injEq] at h
          have hne : l ≠ [] := fun e => by subst e; simp at c1
          have hdg := digits_of l u hu hne (fun e => by
            have : ¬ 1 < l.length := fun h1 => c3 ⟨by
              cases l with
              | nil => cases e
              | cons a r => simpa using e, h1⟩
            have : l.length ≠ 0 := fun e => hne (List.eq_nil_of_length_eq_zero e)
            omega)
          have hv : v = (u : Int) := by simpa using h.symm
          subst hv
          have hit : itoa (u : Int) = l := by
            unfold itoa
            rw [if_neg (by omega), Int.toNat_natCast, hdg]
          refine ⟨?_, hit, by rw [trim_other h45]; omega⟩
          rw [atoiAll_short _ (by omega), ← hit, atoi_itoa.1]; rfl
  refine ⟨⟨fun h => ?_, fun ⟨v, h⟩ => ?_⟩, fun v h => ?_⟩
  · unfold numP at h
    split at h
    · rename_i v hv
      rw [Bool.and_eq_true, decide_eq_true_eq, decide_eq_true_eq] at h
      obtain ⟨h1, h2⟩ := h
      refine ⟨v, ?_⟩
      unfold numR
      by_cases hneg : v < 0
      · have hl : l = 45 :: decDigits v.natAbs := by rw [← h1]; unfold itoa; rw [if_pos hneg]
        subst hl
        rw [trim_minus] at h2
        obtain ⟨b, r, e1, e2, e3⟩ := digits_head v.natAbs (by omega)
        have hlen : (decDigits v.natAbs).length ≠ 0 := fun e => digits_ne _ (List.eq_nil_of_length_eq_zero e)
        have h48 : ¬ (decDigits v.natAbs)[0]? = some 48 := by
          rw [e1]; intro e; simp at e; subst e; simp at e2
        simp only [List.head?_cons, if_true, List.length_cons, List.drop_succ_cons, List.drop_zero, List.getElem?_cons_succ]
        rw [if_neg (by rintro (h | h | h); · omega
                       · omega
                       · exact h48 h.1), decFrom_digits]
        simp only [Option.map_some, Option.some.injEq]
        omega
      · have hl : l = decDigits v.toNat := by rw [← h1]; unfold itoa; rw [if_neg hneg]
        have hlen : (decDigits v.toNat).length ≠ 0 := fun e => digits_ne _ (List.eq_nil_of_length_eq_zero e)
        have hh : l.head? ≠ some 45 := by
          rw [hl]
          by_cases h0 : v.toNat = 0
          · rw [h0, digits_zero]; simp
          · obtain ⟨b, r, e1, e2, e3⟩ := digits_head v.toNat (by omega)
            rw [e1]; intro e; simp at e; subst e; simp at e2
        rw [trim_other hh] at h2
        simp only [hh, if_false, List.drop_zero, Nat.sub_zero]
        have h48 : ¬ (l[0]? = some 48 ∧ 1 < l.length) := by
          rintro ⟨e, h1⟩
          rw [hl] at e h1
          by_cases h0 : v.toNat = 0
          · rw [h0, digits_zero] at h1; simp at h1
          · obtain ⟨b, r, e1, e2, e3⟩ := digits_head v.toNat (by omega)
            rw [e1] at e; simp at e; subst e; simp at e2
        rw [if_neg (by rintro (h | h | h); · rw [hl] at h; omega
                       · omega
                       · exact h48 h), hl, decFrom_digits]
        simp only [Option.map_some, Option.some.injEq]
        rw [if_neg (by omega)]
        omega
    · cases h
  · obtain ⟨h1, h2, h3⟩ := hfw v h
    unfold numP
    rw [h1]
    simp only [h2, h3, decide_true, Bool.and_self]
  · obtain ⟨h1, _, _⟩ := hfw v h
    unfold numV
    rw [h1]
end Go.Proofs.YtpdecefdhkhlnaaGreatDoor
set_option linter.unusedVariables false
set_option linter.unusedSimpArgs false
namespace Go.Proofs.YtpdecefdhkhlnaaGreatDoor
open Go Go.Lib
def preL (p : List UInt8) : List (List UInt8) → List (List UInt8)
  | [] => [p]
  | x :: q => (p ++ x) :: q
def cutL (c : UInt8) : List UInt8 → List (List UInt8)
  | [] => [[]]
  | b :: r => if b = c then [] :: cutL c r else preL [b] (cutL c r)
theorem preL_ne (p : List UInt8) (l : List (List UInt8)) : preL p l ≠ [] := by cases l <;> simp [preL]
theorem cutL_ne (c : UInt8) (l : List UInt8) : cutL c l ≠ [] := by
  cases l with
  | nil => simp [cutL]
  | cons b r =>
    rw [cutL]
    split
    · simp
    · exact preL_ne _ _
theorem preL_nil {l : List (List UInt8)} (h : l ≠ []) : preL [] l = l := by
  cases l with
  | nil => exact absurd rfl h
  | cons x q => rfl
theorem preL_preL (p q : List UInt8) {l : List (List UInt8)} (h : l ≠ []) : preL p (preL q l) = preL (p ++ q) l := by
  cases l with
  | nil => exact absurd rfl h
  | cons x r => simp [preL]
theorem cut_hit {c : UInt8} {s : List UInt8} {i : Nat} (p : List UInt8) (h : s[i]? = some c) :
    preL p (cutL c (s.drop i)) = p :: preL [] (cutL c (s.drop (i + 1))) := by
  obtain ⟨hi, he⟩ := List.getElem?_eq_some_iff.1 h
  rw [List.drop_eq_getElem_cons hi, he, cutL, if_pos rfl, preL_nil (cutL_ne _ _)]
  simp [preL]
theorem cut_miss {c b : UInt8} {s : List UInt8} {i : Nat} (p : List UInt8) (h : s[i]? = some b) (hb : b ≠ c) :
    preL p (cutL c (s.drop i)) = preL (p ++ [b]) (cutL c (s.drop (i + 1))) := by
  obtain ⟨hi, he⟩ := List.getElem?_eq_some_iff.1 h
  rw [List.drop_eq_getElem_cons hi, he, cutL, if_neg hb, preL_preL _ _ (cutL_ne _ _)]
theorem cut_end (c : UInt8) (p : List UInt8) : preL p (cutL c []) = [p] := by simp [cutL, preL]
theorem index_cons (b c : UInt8) (l : List UInt8) (h : b ≠ c) : index (b :: l) [c] = if index l [c] == -1 then -1 else index l [c] + 1 := by
  have hp : ([c] : List UInt8).isPrefixOf (b :: l) = false := by simp [List.isPrefixOf, Ne.symm h]
  rw [index, hp]; simp
theorem split_cut (c : UInt8) : ∀ s : List UInt8, split s [c] = cutL c s
  | [] => by
    unfold split
    rw [count_miss (by simp [index])]
    rfl
  | b :: l => by
    have ih := split_cut c l
    unfold split at ih ⊢
    by_cases h : b = c
    · subst h
      have hix : index (b :: l) [b] = ((0 : Nat) : Int) := by rw [index]; simp [List.isPrefixOf]
      rw [count_cons_eq, Nat.add_comm 1, splitK, if_neg (by rw [hix]; decide), hix, cutL, if_pos rfl, ← ih]
      rfl
    · rw [count_cons_ne b c l h, cutL, if_neg h, ← ih]
      have hix := index_cons b c l h
      by_cases hm : index l [c] = -1
      · rw [count_miss hm]; rfl
      · have hge := index_ge l [c]
        obtain ⟨j, hj⟩ : ∃ j : Nat, index l [c] = j := ⟨(index l [c]).toNat, by omega⟩
        have hix' : index (b :: l) [c] = ((j + 1 : Nat) : Int) := by rw [hix, if_neg (fun e => hm (beq_iff_eq.1 e)), hj]; omega
        rw [count_hit (by simp) hj, Nat.add_comm 1, splitK, splitK, if_neg (by rw [hix']; simp; omega), if_neg (by rw [hj]; simp), hix', hj]
        simp [preL]
theorem splitB_cut (c : UInt8) (s : ByteArray) : splitB ⟨#[c]⟩ 0 (countB s ⟨#[c]⟩) s = (cutL c s.data.toList).map fun l => ⟨l.toArray⟩ := by
  have h := splitB_data ⟨#[c]⟩ 0 (countB s ⟨#[c]⟩) s
  have h2 : splitK (⟨#[c]⟩ : ByteArray).data.toList 0 (countB s ⟨#[c]⟩) s.data.toList = split s.data.toList [c] := rfl
  rw [h2, split_cut] at h
  rw [← h, List.map_map]
  conv => lhs; rw [← List.map_id (splitB _ _ _ _)]
  exact List.map_congr_left fun x _ => rfl
end Go.Proofs.YtpdecefdhkhlnaaGreatDoor

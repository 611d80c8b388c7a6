/- The abstract machine, part 13: taking a state for another one; contracts of functions. -/
import Derived.Test.YtbobgnkohnbonaaAbVC
set_option linter.unusedSimpArgs false
set_option linter.unusedVariables false
namespace Go.Ab
open Go.RowKit

/-! ### new numbers for rows -/
mutual
def AV.ren (r : Nat → Nat) : AV → AV
  | .v x => .v x
  | .sl sz n cs => .sl sz n cs
  | .pt cs i => .pt cs i
  | .ag cs => .ag (renL r cs)
  | .tu cs => .tu (renL r cs)
  | .fn f cs ds => .fn f (renL r cs) (renL r ds)
  | .ic t x => .ic t (AV.ren r x)
  | .lp k off => .lp (r k) off
  | .ls k off sz n => .ls (r k) off sz n
  | .any => .any
def renL (r : Nat → Nat) : List AV → List AV
  | [] => []
  | a :: l => AV.ren r a :: renL r l
end

theorem renL_map (r : Nat → Nat) : ∀ cs : List AV, renL r cs = cs.map (AV.ren r)
  | [] => rfl
  | a :: l => by simp [renL, renL_map r l]

theorem renL_get {r : Nat → Nat} {cs : List AV} {i : Nat} {c : AV} (h : cs[i]? = some c) : (renL r cs)[i]? = some (c.ren r) := by
  rw [renL_map, List.getElem?_map, h]; rfl

theorem renL_length (r : Nat → Nat) (cs : List AV) : (renL r cs).length = cs.length := by rw [renL_map]; simp

mutual
theorem ren_plain (r : Nat → Nat) : ∀ a : AV, a.plain = true → a.ren r = a
  | .v x, _ => rfl
  | .sl _ _ _, _ => rfl
  | .pt _ _, _ => rfl
  | .ag cs, h => by simp only [AV.plain] at h; simp only [AV.ren, renL_plain r cs h]
  | .tu cs, h => by simp only [AV.plain] at h; simp only [AV.ren, renL_plain r cs h]
  | .fn f cs ds, h => by simp only [AV.plain, Bool.and_eq_true] at h; simp only [AV.ren, renL_plain r cs h.1, renL_plain r ds h.2]
  | .ic t x, h => by simp only [AV.plain] at h; simp only [AV.ren, ren_plain r x h]
  | .lp _ _, h => by simp [AV.plain] at h
  | .ls _ _ _ _, h => by simp [AV.plain] at h
  | .any, h => by simp [AV.plain] at h
theorem renL_plain (r : Nat → Nat) : ∀ cs : List AV, plainL cs = true → renL r cs = cs
  | [], _ => rfl
  | a :: l, h => by
    simp only [plainL, Bool.and_eq_true] at h
    simp only [renL, ren_plain r a h.1, renL_plain r l h.2]
end

theorem Rp.ren {O : Nat → Prop} {w : World} {r : Nat → Nat} {a : AV} {u : Value} (h : Rp O w a u) : ∀ av : AV, av.ren r = a → Rp O w av u := by
  induction h with
  | v x => intro av e; cases av <;> simp only [AV.ren, reduceCtorEq] at e; cases e; exact .v x
  | nil sz => intro av e; cases av <;> simp only [AV.ren, reduceCtorEq] at e; cases e; exact .nil sz
  | sl sz n cs b off cap f hO hb hn hl hc hr ih => intro av e; cases av <;> simp only [AV.ren, reduceCtorEq] at e; cases e; exact .sl sz n cs b off cap f hO hb hn hl hc hr
  | pt cs i b off f hO hb hc hr ih => intro av e; cases av <;> simp only [AV.ren, reduceCtorEq] at e; cases e; exact .pt cs i b off f hO hb hc hr
  | ag cs us f hs hu hr ih =>
    intro av e
    cases av <;> simp only [AV.ren, reduceCtorEq] at e
    cases e
    exact .ag _ us f (by rw [hs, renL_length]) (fun i c hc => hu i _ (renL_get hc)) (fun i c hc => ih i _ (renL_get hc) c rfl)
  | tu cs us f hs hu hr ih =>
    intro av e
    cases av <;> simp only [AV.ren, reduceCtorEq] at e
    cases e
    exact .tu _ us f (by rw [hs, renL_length]) (fun i c hc => hu i _ (renL_get hc)) (fun i c hc => ih i _ (renL_get hc) c rfl)
  | fn fn cs ds us vs f g hs ht hu hr hv hq ih1 ih2 =>
    intro av e
    cases av <;> simp only [AV.ren, reduceCtorEq] at e
    cases e
    exact .fn _ _ _ us vs f g (by rw [hs, renL_length]) (by rw [ht, renL_length]) (fun i c hc => hu i _ (renL_get hc)) (fun i c hc => ih1 i _ (renL_get hc) c rfl) (fun i c hc => hv i _ (renL_get hc)) (fun i c hc => ih2 i _ (renL_get hc) c rfl)
  | ic t x u h ih => intro av e; cases av <;> simp only [AV.ren, reduceCtorEq] at e; cases e; exact .ic _ _ u (ih _ rfl)

theorem R.ren {β : Bt} {O : Nat → Prop} {w : World} {r : Nat → Nat} {a : AV} {u : Value} (h : R β O w a u) : ∀ av : AV, av.ren r = a → R (fun k => β (r k)) O w av u := by
  induction h with
  | pl a u h => intro av e; exact .pl _ _ (h.ren av e)
  | any u => intro av e; cases av <;> simp only [AV.ren, reduceCtorEq] at e; exact .any u
  | ag cs us f hs hu hr ih =>
    intro av e
    cases av <;> simp only [AV.ren, reduceCtorEq] at e
    cases e
    exact .ag _ us f (by rw [hs, renL_length]) (fun i c hc => hu i _ (renL_get hc)) (fun i c hc => ih i _ (renL_get hc) c rfl)
  | tu cs us f hs hu hr ih =>
    intro av e
    cases av <;> simp only [AV.ren, reduceCtorEq] at e
    cases e
    exact .tu _ us f (by rw [hs, renL_length]) (fun i c hc => hu i _ (renL_get hc)) (fun i c hc => ih i _ (renL_get hc) c rfl)
  | fn fn cs ds us vs f g hs ht hu hr hv hq ih1 ih2 =>
    intro av e
    cases av <;> simp only [AV.ren, reduceCtorEq] at e
    cases e
    exact .fn _ _ _ us vs f g (by rw [hs, renL_length]) (by rw [ht, renL_length]) (fun i c hc => hu i _ (renL_get hc)) (fun i c hc => ih1 i _ (renL_get hc) c rfl) (fun i c hc => hv i _ (renL_get hc)) (fun i c hc => ih2 i _ (renL_get hc) c rfl)
  | ic t x u h ih => intro av e; cases av <;> simp only [AV.ren, reduceCtorEq] at e; cases e; exact .ic _ _ u (ih _ rfl)
  | lp k off b st hk => intro av e; cases av <;> simp only [AV.ren, reduceCtorEq] at e; cases e; exact .lp _ _ b st hk
  | lsn k off sz a hk ha => intro av e; cases av <;> simp only [AV.ren, reduceCtorEq] at e; cases e; exact .lsn _ _ _ a hk ha
  | ls k off sz n b st cap hk hn hsz => intro av e; cases av <;> simp only [AV.ren, reduceCtorEq] at e; cases e; exact .ls _ _ _ _ b st cap hk hn hsz

/-- What may be said in the place of a value. -/
def Sb (a b : AV) : Prop := ∀ (β : Bt) (O : Nat → Prop) (w : World) (u : Value), R β O w a u → R β O w b u
theorem Sb.refl (a : AV) : Sb a a := fun _ _ _ _ h => h
theorem Sb.of_eq {a b : AV} (h : a = b) : Sb a b := h ▸ Sb.refl a
theorem Sb.any (a : AV) : Sb a .any := fun _ _ _ _ _ => .any _
theorem Sb.nil (sz : Nat) : Sb (.v (.slice none 0 0)) (.sl sz 0 []) := fun _ _ _ _ h => by rw [h.v_inv]; exact .pl _ _ (.nil sz)
theorem Sb.ag {cs ds : List AV} (hl : ds.length = cs.length) (h : ∀ (i : Nat) (c d : AV), cs[i]? = some c → ds[i]? = some d → Sb c d) : Sb (.ag cs) (.ag ds) := fun β O w u hr => by
  obtain ⟨us, rfl, hs, hu⟩ := hr.ag_inv
  refine R.mk_ag (by rw [hs, hl]) fun i d hd => ?_
  have hi : i < cs.length := by rw [← hl]; exact (List.getElem?_eq_some_iff.1 hd).1
  obtain ⟨x, h1, h2⟩ := hu i cs[i] (List.getElem?_eq_getElem hi)
  exact ⟨x, h1, h i _ d (List.getElem?_eq_getElem hi) hd _ _ _ _ h2⟩
theorem Sb.tu {cs ds : List AV} (hl : ds.length = cs.length) (h : ∀ (i : Nat) (c d : AV), cs[i]? = some c → ds[i]? = some d → Sb c d) : Sb (.tu cs) (.tu ds) := fun β O w u hr => by
  obtain ⟨us, rfl, hs, hu⟩ := hr.tu_inv
  refine R.mk_tu (by rw [hs, hl]) fun i d hd => ?_
  have hi : i < cs.length := by rw [← hl]; exact (List.getElem?_eq_some_iff.1 hd).1
  obtain ⟨x, h1, h2⟩ := hu i cs[i] (List.getElem?_eq_getElem hi)
  exact ⟨x, h1, h i _ d (List.getElem?_eq_getElem hi) hd _ _ _ _ h2⟩
/-- Lists of values, one by one. -/
def SbL : List AV → List AV → Prop
  | [], [] => True
  | a :: l, b :: m => Sb a b ∧ SbL l m
  | _, _ => False
theorem SbL.get : ∀ {as bs : List AV}, SbL as bs → bs.length = as.length ∧ ∀ (i : Nat) (c d : AV), as[i]? = some c → bs[i]? = some d → Sb c d
  | [], [], _ => ⟨rfl, fun i c d h => by simp at h⟩
  | a :: l, b :: m, ⟨h1, h2⟩ => by
    obtain ⟨e, h3⟩ := SbL.get h2
    refine ⟨by simp [e], fun i c d hc hd => ?_⟩
    cases i with
    | zero => simp at hc hd; subst hc hd; exact h1
    | succ i => exact h3 i c d (by simpa using hc) (by simpa using hd)
  | [], _ :: _, h => h.elim
  | _ :: _, [], h => h.elim
theorem SbL.refl : ∀ l : List AV, SbL l l
  | [] => trivial
  | a :: l => ⟨Sb.refl a, SbL.refl l⟩
theorem Sb.tuL {cs ds : List AV} (h : SbL cs ds) : Sb (.tu cs) (.tu ds) := Sb.tu h.get.1 h.get.2
theorem Sb.agL {cs ds : List AV} (h : SbL cs ds) : Sb (.ag cs) (.ag ds) := Sb.ag h.get.1 h.get.2

section
variable {σ σ' σ'' : St}

theorem Ent.refl (σ : St) : Ent σ σ := ⟨rfl, fun g β O a w hc => ⟨β, O, hc⟩⟩
theorem Ent.trans (h : Ent σ σ') (k : Ent σ' σ'') : Ent σ σ'' := ⟨k.1.trans h.1, fun g β O a w hc =>
  let ⟨β', O', h1⟩ := h.2 g β O a w hc
  k.2 g β' O' a w h1⟩

/-- The slots that are asked. -/
def slots (r : Nat → Nat) (fr : List (Nat × AV)) : List (Nat × AV) → Prop
  | [] => True
  | p :: l => (match lk fr p.1 with | some a => Sb a (p.2.ren r) | none => p.2 = .any ∧ False) ∧ slots r fr l

theorem slots_get {r : Nat → Nat} {fr : List (Nat × AV)} : ∀ {l : List (Nat × AV)}, slots r fr l → ∀ t av, lk l t = some av → ∃ a, lk fr t = some a ∧ Sb a (av.ren r)
  | [], _, t, av, h => by simp [lk] at h
  | p :: l, ⟨h1, h2⟩, t, av, h => by
    obtain ⟨t', a'⟩ := p
    simp only [lk] at h
    by_cases e : t' = t
    · subst e
      simp only [BEq.rfl, cond_true, Option.some.injEq] at h
      subst h
      dsimp only at h1
      split at h1
      · rename_i a ha; exact ⟨a, ha, h1⟩
      · exact h1.2.elim
    · rw [show (t' == t) = false by simpa using e, cond_false] at h
      exact slots_get h2 t av h

/-- **New numbers**: the slots that the new state names; the rows that it names, under their new numbers. -/
theorem ent_ren (r : Nat → Nat) (hs : slots r σ.fr σ'.fr) (hn : σ'.n = σ.n) (hp : ∀ k, k < σ.n.2.1 → r k = k) (hh : ∀ k c, σ'.hp k = some c → σ.hp (r k) = some (renL r c)) (hi : ∀ k k', σ'.hp k ≠ none → σ'.hp k' ≠ none → r k = r k' → k = k')
    (hf : ∀ k, σ'.nx ≤ k → σ'.hp k = none ∧ σ.nx ≤ r k) : Ent σ σ' := by
  refine ⟨hn, ?_⟩
  intro g β O a w hc
  refine ⟨fun k => β (r k), O, ⟨hc.defers, fun t av ht => ?_, hn ▸ hc.sz, ⟨fun k c hk => ?_, fun k k' b st st' h1 h2 h3 h4 => ?_, hc.hc.own, hc.hc.base, fun k hk => (hf k hk).1, fun k hk => hc.hc.fresh _ (hf k hk).2⟩, hc.inv, hc.b0, hn ▸ hc.pp, fun k q hq => ?_, hc.tr⟩⟩
  · obtain ⟨a', h1, h2⟩ := slots_get hs t av ht
    obtain ⟨u, h3, h4⟩ := hc.fr t a' h1
    exact ⟨u, h3, (h2 _ _ _ _ h4).ren av rfl⟩
  · rcases hc.hc.row (r k) _ (hh k c hk) with ⟨h1, h2⟩ | ⟨b, st, h1, h2, h3, arr, e, h4, h5, h6⟩
    · refine .inl ⟨h1, ?_⟩
      have := renL_length r c
      rw [h2] at this
      exact List.length_eq_zero_iff.1 this.symm
    · refine .inr ⟨b, st, h1, h2, h3, arr, e, h4, by rw [renL_length] at h5; exact h5, fun j x hj => ?_⟩
      obtain ⟨u, p, q⟩ := h6 j _ (renL_get hj)
      exact ⟨u, p, q.ren x rfl⟩
  · refine hi k k' h1 h2 (hc.hc.inj (r k) (r k') b st st' ?_ ?_ h3 h4)
    · cases hk : σ'.hp k with
      | none => exact absurd hk h1
      | some c => rw [hh k c hk]; simp
    · cases hk : σ'.hp k' with
      | none => exact absurd hk h2
      | some c => rw [hh k' c hk]; simp
  · have : k < σ.n.2.1 := by
      rcases Nat.lt_or_ge k σ.n.2.1 with h' | h'
      · exact h'
      · rw [g.hp k (Nat.le_trans hc.pp h')] at hq; cases hq
    show β (r k) = some q
    rw [hp k this]
    exact hc.prot k q hq

mutual
theorem ren_id : ∀ a : AV, a.ren (fun k => k) = a
  | .v x => rfl
  | .sl _ _ _ => rfl
  | .pt _ _ => rfl
  | .ag cs => by simp only [AV.ren, renL_id cs]
  | .tu cs => by simp only [AV.ren, renL_id cs]
  | .fn f cs ds => by simp only [AV.ren, renL_id cs, renL_id ds]
  | .ic t x => by simp only [AV.ren, ren_id x]
  | .lp _ _ => rfl
  | .ls _ _ _ _ => rfl
  | .any => rfl
theorem renL_id : ∀ cs : List AV, renL (fun k => k) cs = cs
  | [] => rfl
  | a :: l => by simp only [renL, ren_id a, renL_id l]
end

/-- Rows keep their numbers; slots are forgotten or weakened. -/
theorem ent_slots (hs : slots (fun k => k) σ.fr σ'.fr) (hn : σ'.n = σ.n) (hh : σ'.hp = σ.hp) (hx : σ'.nx = σ.nx) : Ent σ σ' := by
  refine ⟨hn, ?_⟩
  intro g β O a w hc
  refine ⟨β, O, ⟨hc.defers, fun t av ht => ?_, hn ▸ hc.sz, by rw [hh, hx]; exact hc.hc, hc.inv, hc.b0, hn ▸ hc.pp, hc.prot, hc.tr⟩⟩
  obtain ⟨a', h1, h2⟩ := slots_get hs t av ht
  obtain ⟨u, h3, h4⟩ := hc.fr t a' h1
  exact ⟨u, h3, by have := h2 _ _ _ _ h4; rwa [ren_id] at this⟩

/-! ### a row that is not written any more -/
def AV.fz (k : Nat) (c : List AV) : AV → AV
  | .ls j off sz n => bif k == j then (if off + n * sz ≤ c.length then .sl sz n ((c.drop off).take (n * sz)) else .ls j off sz n) else .ls j off sz n
  | .lp j off => bif k == j then .pt c off else .lp j off
  | .ag cs => .ag (cs.map fun
    | .ls j off sz n => bif k == j then (if off + n * sz ≤ c.length then .sl sz n ((c.drop off).take (n * sz)) else .ls j off sz n) else .ls j off sz n
    | .lp j off => bif k == j then .pt c off else .lp j off
    | a => a)
  | a => a

def fzF (k : Nat) (c : List AV) : List (Nat × AV) → List (Nat × AV)
  | [] => []
  | p :: l => (p.1, p.2.fz k c) :: fzF k c l

theorem lk_fzF (k : Nat) (c : List AV) : ∀ (l : List (Nat × AV)) (t : Nat), lk (fzF k c l) t = (lk l t).map (AV.fz k c)
  | [], t => rfl
  | p :: l, t => by
    simp only [fzF, lk]
    cases h : (p.1 == t)
    · simp [lk_fzF k c l t]
    · simp

theorem ent_freeze (k : Nat) {c : List AV} (hk : σ.hp k = some c) (hp : plainL c = true) : Ent σ { σ with fr := fzF k c σ.fr, hp := hset σ.hp k none } := by
  refine ⟨rfl, ?_⟩
  intro g β O a w hc
  -- the block, if there is one
  let O' : Nat → Prop := fun b => O b ∧ ∀ st, β k ≠ some (some (b, st))
  have hOO : ∀ b, O' b → O b := fun b h => h.1
  have ht : Tr O w O' w := ⟨Nat.le_refl _, fun b hb ho => ⟨rfl, fun h => ho h.1⟩, fun b arr e fz hb => ⟨arr, fz, hb, rfl⟩⟩
  have one : ∀ (x : AV) (u : Value), R β O w x u → ∀ y, (y = (match x with
    | .ls j off sz n => bif k == j then (if off + n * sz ≤ c.length then AV.sl sz n ((c.drop off).take (n * sz)) else .ls j off sz n) else .ls j off sz n
    | .lp j off => bif k == j then .pt c off else .lp j off
    | a => a)) → R β O' w y u := by
    intro x u hx y hy
    have keep : R β O' w x u := hx.mono ht (fun _ _ h => h)
    have cellsOk : ∀ b st, β k = some (some (b, st)) → ¬ O' b ∧ b < w.heap.size ∧ ∀ (j : Nat) (y : AV), c[j]? = some y → ∃ v : Value, w.cell? ⟨b, st + j, none⟩ = some v ∧ Rp O' w y v := by
      intro b st hb
      refine ⟨fun h => h.2 st hb, ?_⟩
      rcases hc.hc.row k c hk with ⟨h1, _⟩ | ⟨b', st', h1, _, _, hrow⟩
      · rw [hb] at h1; cases h1
      · rw [hb] at h1; cases h1
        refine ⟨hrow.lt, fun j y hj => ?_⟩
        obtain ⟨v, p, q⟩ := hrow.cell hj
        exact ⟨v, p, (q.plain (plainL_get hp hj)).mono ht⟩
    subst hy
    split
    · rename_i j off sz n
      by_cases e : k = j
      · subst e
        simp only [BEq.rfl, cond_true]
        split
        · rename_i hle
          rcases hx.ls_inv with ⟨h1, rfl, ad, rfl, had⟩ | ⟨b, st, cap, h1, hn, rfl, _⟩
          · simp only [Nat.zero_mul, List.take_zero]
            cases ad with
            | none => exact .pl _ _ (.nil sz)
            | some ad =>
              obtain ⟨b, of, rfl, hO, hb⟩ := had ad rfl
              exact .pl _ _ (Rp.mk_sl (fun h => hO h.1) hb (Nat.le_refl _) (by simp) (fun i c hi => by simp at hi))
          · obtain ⟨h2, h3, h4⟩ := cellsOk b st h1
            refine .pl _ _ (Rp.mk_sl h2 h3 hn (by simp; omega) fun i y hi => ?_)
            rw [List.getElem?_take] at hi
            split at hi
            · rw [List.getElem?_drop] at hi
              rw [Nat.add_assoc]
              exact h4 _ _ hi
            · cases hi
        · exact keep
      · rw [show (k == j) = false by simpa using e, cond_false]; exact keep
    · rename_i j off
      by_cases e : k = j
      · subst e
        simp only [BEq.rfl, cond_true]
        obtain ⟨b, st, h1, rfl⟩ := hx.lp_inv
        obtain ⟨h2, h3, h4⟩ := cellsOk b st h1
        exact .pl _ _ (Rp.mk_pt h2 h3 h4)
      · rw [show (k == j) = false by simpa using e, cond_false]; exact keep
    · exact keep
  have fzR : ∀ (x : AV) (u : Value), R β O w x u → R β O' w (x.fz k c) u := by
    intro x u hx
    cases x with
    | ag cs =>
      obtain ⟨us, rfl, hs, hu⟩ := hx.ag_inv
      simp only [AV.fz]
      refine R.mk_ag (by simp [hs]) fun i y hy => ?_
      rw [List.getElem?_map] at hy
      cases hq : cs[i]? with
      | none => simp [hq] at hy
      | some z =>
        rw [hq, Option.map_some, Option.some.injEq] at hy
        obtain ⟨v, p, q⟩ := hu i z hq
        exact ⟨v, p, one z v q y hy.symm⟩
    | ls j off sz n => exact one _ u hx _ rfl
    | lp j off => exact one _ u hx _ rfl
    | _ => exact hx.mono ht (fun _ _ h => h)
  have hd := hc_drop hc.hc k
  have hrk : ∀ b st, β k = some (some (b, st)) → ¬ g.B0 b := fun b st hst => by
    rcases hc.hc.row k c hk with ⟨h1, _⟩ | ⟨b', st', h1, _, h3, _⟩
    · rw [hst] at h1; cases h1
    · rw [hst] at h1; cases h1; exact h3
  have hpr : Pr g.B0 O w O' w := ⟨rfl, rfl, rfl, fun _ _ => rfl, fun b hb ho => ⟨ho, fun st hst => hrk b st hst hb⟩, fun h b hb => h b hb.1⟩
  refine ⟨β, O', ⟨hc.defers.tr ht, fun t av hav => ?_, hc.sz, ⟨fun j c' hj => ?_, hd.inj, fun b hb => hc.hc.own b hb.1, fun b hb => ⟨⟨(hc.hc.base b hb).1, fun st hst => hrk b st hst (hc.hc.base b hb).2⟩, (hc.hc.base b hb).2⟩, hd.free, hd.fresh⟩, g.stab _ _ _ _ hc.inv ht hpr, hc.b0, hc.pp, hc.prot, hc.tr.trans ht⟩⟩
  · change lk (fzF k c σ.fr) t = some av at hav
    rw [lk_fzF] at hav
    cases hq : lk σ.fr t with
    | none => simp [hq] at hav
    | some x =>
      rw [hq, Option.map_some, Option.some.injEq] at hav
      obtain ⟨u, p, q⟩ := hc.fr t x hq
      exact ⟨u, p, hav ▸ fzR x u q⟩
  · rcases hd.row j c' hj with h1 | ⟨b, st, h1, h2, h3, h4⟩
    · exact .inl h1
    · refine .inr ⟨b, st, h1, ⟨h2, fun st' hst => ?_⟩, h3, h4.mono ht (fun _ _ h => h) rfl⟩
      have hjk : σ.hp j ≠ none ∧ k ≠ j := by
        simp only [hset] at hj
        by_cases e : k = j
        · subst e; simp at hj
        · rw [show (k == j) = false by simpa using e, cond_false] at hj
          exact ⟨by rw [hj]; simp, e⟩
      exact hjk.2 (hc.hc.inj k j b st' st (by rw [hk]; simp) hjk.1 hst h1)
end
end Go.Ab

/- The abstract machine, part 24: a row that holds rows. -/
import Derived.Test.YtbobgnkohnbonaaAbOpen
set_option linter.unusedSimpArgs false
set_option linter.unusedVariables false
namespace Go.Ab
open Go.RowKit

theorem bq_ne {a b : Nat} (h : a ≠ b) : (a == b) = false := by simpa using h
theorem Ent.of_eq {σ σ' : St} (h : σ = σ') : Ent σ σ' := h ▸ Ent.refl σ
/-- Values that name no row from b on. -/
def AV.low (b : Nat) : AV → Bool
  | .ls k _ _ _ => Nat.blt k b
  | .lp k _ => Nat.blt k b
  | a => a.plain
def belowF (b : Nat) : List (Nat × AV) → Bool
  | [] => true
  | p :: l => p.2.low b && belowF b l
/-- Rows below b, of plain cells. -/
def LowH (b P : Nat) (R : Hp) : Prop := ∀ k c, R k = some c → k < b ∧ k ≠ P ∧ plainL c = true

def rorC (b m : Nat) (ph : Nat → List Int) : List AV := (List.range m).map fun j => .ls (b + j) 0 1 (ph j).length
/-- Row P holds the rows from b on. -/
def ror (R : Hp) (P b m : Nat) (ph : Nat → List Int) : Hp := fun k => if k = P then some (rorC b m ph) else if b ≤ k ∧ k < b + m then some (ints (ph (k - b))) else R k
def updP (ph : Nat → List Int) (j : Nat) (l : List Int) : Nat → List Int := fun i => if i = j then l else ph i

theorem rorC_get {b m : Nat} {ph : Nat → List Int} {j : Nat} (hj : j < m) : (rorC b m ph)[j]? = some (.ls (b + j) 0 1 (ph j).length) := by simp [rorC, hj]
theorem rorC_length (b m : Nat) (ph : Nat → List Int) : (rorC b m ph).length = m := by simp [rorC]
theorem ror_P (R : Hp) (P b m : Nat) (ph : Nat → List Int) : ror R P b m ph P = some (rorC b m ph) := by simp [ror]
theorem ror_row {R : Hp} {P b m : Nat} {ph : Nat → List Int} {j : Nat} (hP : P < b) (hj : j < m) : ror R P b m ph (b + j) = some (ints (ph j)) := by
  unfold ror
  rw [if_neg (by omega), if_pos (by omega), show b + j - b = j by omega]
theorem ror_set {R : Hp} {P b m : Nat} {ph : Nat → List Int} {j : Nat} {l : List Int} (hP : P < b) (hj : j < m) (hl : l.length = (ph j).length) : hset (ror R P b m ph) (b + j) (some (ints l)) = ror R P b m (updP ph j l) := by
  funext k
  rw [hset']
  have hc : rorC b m (updP ph j l) = rorC b m ph := by
    unfold rorC
    refine List.map_congr_left fun i hi => ?_
    unfold updP
    by_cases e : i = j
    · subst e; rw [if_pos rfl, hl]
    · rw [if_neg e]
  by_cases e : b + j = k
  · subst e
    rw [beq_self_eq_true, ror_row hP hj, ror_row hP hj]
    unfold updP
    rw [if_pos rfl]
  · rw [bq_ne e]
    unfold ror
    by_cases h1 : k = P
    · rw [if_pos h1, if_pos h1, hc]
    · rw [if_neg h1, if_neg h1]
      by_cases h2 : b ≤ k ∧ k < b + m
      · rw [if_pos h2, if_pos h2]
        unfold updP
        rw [if_neg (by omega)]
      · rw [if_neg h2, if_neg h2]

theorem ren_below {b : Nat} {r : Nat → Nat} (hr : ∀ k, k < b → r k = k) {a : AV} (h : a.low b = true) : a.ren r = a := by
  unfold AV.low at h
  split at h
  · simp only [AV.ren]; rw [hr _ (Nat.le_of_ble_eq_true h)]
  · simp only [AV.ren]; rw [hr _ (Nat.le_of_ble_eq_true h)]
  · exact ren_plain r _ h
theorem slots_below {b : Nat} {r : Nat → Nat} (hr : ∀ k, k < b → r k = k) {fr : List (Nat × AV)} : ∀ {l : List (Nat × AV)}, slotsE fr l → belowF b l = true → slots r fr l
  | [], _, _ => True.intro
  | p :: l, ⟨h1, h2⟩, hb => by
    simp only [belowF, Bool.and_eq_true] at hb
    refine ⟨?_, slots_below hr h2 hb.2⟩
    rw [h1]
    dsimp only
    rw [ren_below hr hb.1]
    exact Sb.refl _

/-- One of the rows was put in another place. -/
theorem ent_ror_move {σ : St} {R : Hp} {P b m : Nat} {ph : Nat → List Int} {j : Nat} {l : List Int} {fr : List (Nat × AV)} {n : Nat × Nat × Nat} {nx : Nat} (hP : P < b) (hj : j < m) (hR : LowH b P R) (hnx : b + m ≤ nx) (hnp : n.2.1 ≤ b)
    (hs : slotsE σ.fr fr) (hb : belowF b fr = true) (hn : n = σ.n) (hx : σ.nx = nx + 1)
    (hh : σ.hp = hset (hset (hset (ror R P b m ph) (b + j) none) nx (some (ints l))) P (some ((rorC b m ph).set j (.ls nx 0 1 l.length)))) : Ent σ ⟨fr, ror R P b m (updP ph j l), nx + 1, n⟩ := by
  let r : Nat → Nat := fun k => if k = b + j then nx else k
  have hrk : ∀ k, k ≠ b + j → r k = k := fun k h => if_neg h
  have hrj : r (b + j) = nx := if_pos rfl
  have hlow : ∀ k, k < b → r k = k := fun k h => hrk k (by omega)
  refine ent_ren r (slots_below hlow hs hb) hn (fun k hk => hlow k (by rw [← hn] at hk; omega)) (fun k c hk => ?_) (fun k k' h1 h2 h3 => ?_) (fun k hk => ?_)
  · change ror R P b m (updP ph j l) k = some c at hk
    rw [hh, hset', hset', hset']
    by_cases h1 : k = P
    · subst h1
      rw [ror_P] at hk
      cases hk
      rw [hrk k (by omega), beq_self_eq_true]
      dsimp only
      refine congrArg some ?_
      rw [renL_map]
      refine List.ext_getElem? fun i => ?_
      rw [List.getElem?_set, List.getElem?_map, rorC_length]
      by_cases hi : i < m
      · rw [rorC_get hi, rorC_get hi]
        by_cases e : j = i
        · subst e
          rw [if_pos rfl, if_pos hi]
          simp only [Option.map_some, AV.ren, hrj, updP, if_pos]
        · rw [if_neg e]
          simp only [Option.map_some, AV.ren, updP, if_neg (Ne.symm e), hrk (b + i) (by omega)]
      · have h0 : ∀ q, (rorC b m q)[i]? = none := fun q => List.getElem?_eq_none (by rw [rorC_length]; omega)
        rw [h0, h0, if_neg (by omega)]; rfl
    · unfold ror at hk
      rw [if_neg h1] at hk
      by_cases h2 : b ≤ k ∧ k < b + m
      · rw [if_pos h2] at hk
        cases hk
        rw [ints_renL]
        by_cases e : k = b + j
        · subst e
          rw [hrj, bq_ne (show P ≠ nx by omega), beq_self_eq_true]
          simp [updP]
        · rw [hrk k e, bq_ne (Ne.symm h1), bq_ne (show nx ≠ k by omega), bq_ne (Ne.symm e)]
          dsimp only
          unfold ror updP
          rw [if_neg h1, if_pos h2, if_neg (by omega)]
      · rw [if_neg h2] at hk
        obtain ⟨q1, q2, q3⟩ := hR k c hk
        rw [hrk k (by omega), bq_ne (Ne.symm h1), bq_ne (show nx ≠ k by omega), bq_ne (show b + j ≠ k by omega), renL_plain r c q3]
        dsimp only
        unfold ror
        rw [if_neg h1, if_neg h2, hk]
  · have hlt : ∀ k, ror R P b m (updP ph j l) k ≠ none → k < nx := fun k h => by
      unfold ror at h
      by_cases h1 : k = P
      · omega
      · rw [if_neg h1] at h
        by_cases h2 : b ≤ k ∧ k < b + m
        · omega
        · rw [if_neg h2] at h
          cases hq : R k with
          | none => exact absurd hq h
          | some c => have := hR k c hq; omega
    have a1 := hlt k h1
    have a2 := hlt k' h2
    by_cases e1 : k = b + j <;> by_cases e2 : k' = b + j
    · omega
    · rw [e1, hrj, hrk k' e2] at h3; omega
    · rw [e2, hrj, hrk k e1] at h3; omega
    · rw [hrk k e1, hrk k' e2] at h3; exact h3
  · have hk' : nx + 1 ≤ k := hk
    refine ⟨?_, by rw [hrk k (by omega), hx]; exact hk'⟩
    show ror R P b m (updP ph j l) k = none
    unfold ror
    rw [if_neg (by omega), if_neg (by omega)]
    cases hq : R k with
    | none => rfl
    | some c => have := hR k c hq; omega

/-- Nil slices that are taken for rows. -/
theorem ent_ror_nil {σ : St} {R : Hp} {P m : Nat} (hP : P < σ.nx) (hR : ∀ k, σ.nx ≤ k → R k = none) (hh : σ.hp = fun k => if k = P then some (List.replicate m (.v (.slice none 0 0))) else R k) :
    Ent σ { σ with hp := ror R P σ.nx m (fun _ => []), nx := σ.nx + m } := by
  have key : ∀ t, t ≤ m → Ent σ { σ with hp := (fun k => if k = P then some ((List.range m).map fun j => if j < t then AV.ls (σ.nx + j) 0 1 0 else .v (.slice none 0 0)) else if σ.nx ≤ k ∧ k < σ.nx + t then some [] else R k), nx := σ.nx + t } := by
    intro t
    induction t with
    | zero =>
      intro _
      have : (fun k => if k = P then some ((List.range m).map fun j => if j < 0 then AV.ls (σ.nx + j) 0 1 0 else .v (.slice none 0 0)) else if σ.nx ≤ k ∧ k < σ.nx + 0 then some [] else R k) = σ.hp := by
        rw [hh]
        funext k
        by_cases h1 : k = P
        · rw [if_pos h1, if_pos h1]
          refine congrArg some (List.ext_getElem? fun i => ?_)
          by_cases hi : i < m
          · simp [hi]
          · simp [hi]
        · rw [if_neg h1, if_neg h1, if_neg (by omega)]
      rw [this]
      exact Ent.refl σ
    | succ t ih =>
      intro ht
      refine (ih (by omega)).trans ?_
      have := ent_nil_cell (σ := { σ with hp := (fun k => if k = P then some ((List.range m).map fun j => if j < t then AV.ls (σ.nx + j) 0 1 0 else .v (.slice none 0 0)) else if σ.nx ≤ k ∧ k < σ.nx + t then some [] else R k), nx := σ.nx + t }) P t 1 (c := (List.range m).map fun j => if j < t then AV.ls (σ.nx + j) 0 1 0 else .v (.slice none 0 0))
        (by dsimp only; rw [if_pos rfl]) (by simp [show t < m by omega])
      dsimp only at this
      refine this.trans (Ent.of_eq ?_)
      simp only [St.mk.injEq, true_and]
      refine ⟨?_, by omega, trivial⟩
      funext k
      rw [hset', hset']
      by_cases e : σ.nx + t = k
      · subst e
        rw [beq_self_eq_true]
        dsimp only
        rw [if_neg (by omega), if_pos (by omega)]
      · rw [bq_ne e]
        dsimp only
        by_cases h1 : k = P
        · subst h1
          rw [beq_self_eq_true]
          dsimp only
          rw [if_pos rfl]
          refine congrArg some (List.ext_getElem? fun i => ?_)
          rw [List.getElem?_set]
          by_cases hi : i < m
          · by_cases e2 : t = i
            · subst e2; simp [hi]
            · rw [if_neg e2]
              simp only [List.getElem?_map, List.getElem?_range hi, Option.map_some]
              by_cases h3 : i < t
              · rw [if_pos h3, if_pos (by omega)]
              · rw [if_neg h3, if_neg (by omega)]
          · simp only [List.getElem?_map, List.length_map, List.length_range]
            rw [List.getElem?_eq_none (by simpa using hi), if_neg (by omega)]
            rfl
        · rw [bq_ne (Ne.symm h1), if_neg h1]
          dsimp only
          rw [if_neg h1]
          by_cases h2 : σ.nx ≤ k ∧ k < σ.nx + t
          · rw [if_pos h2, if_pos (by omega)]
          · rw [if_neg h2, if_neg (by omega)]
  refine (key m (Nat.le_refl _)).trans (Ent.of_eq ?_)
  simp only [St.mk.injEq, true_and, and_true]
  funext k
  unfold ror
  by_cases h1 : k = P
  · rw [if_pos h1, if_pos h1]
    refine congrArg some (List.ext_getElem? fun i => ?_)
    by_cases hi : i < m
    · rw [rorC_get hi]; simp [hi]
    · have h0 : (rorC σ.nx m (fun _ => []))[i]? = none := List.getElem?_eq_none (by rw [rorC_length]; omega)
      rw [h0]
      simp [hi]
  · rw [if_neg h1, if_neg h1]
    by_cases h2 : σ.nx ≤ k ∧ k < σ.nx + m
    · rw [if_pos h2, if_pos h2]; rfl
    · rw [if_neg h2, if_neg h2]

theorem fz_plain' (k : Nat) (c : List AV) {a : AV} (h : a.plain = true) : a.fz k c = a := by
  cases a with
  | ag cs =>
    simp only [AV.fz]
    refine congrArg AV.ag ?_
    simp only [AV.plain] at h
    refine List.ext_getElem? fun i => ?_
    rw [List.getElem?_map]
    cases hq : cs[i]? with
    | none => rfl
    | some x =>
      have := plainL_get h hq
      cases x <;> first | rfl | (simp [AV.plain] at this)
  | ls k off sz n => simp [AV.plain] at h
  | lp k off => simp [AV.plain] at h
  | _ => rfl
theorem fzL_plain (k : Nat) (c : List AV) {l : List AV} (h : plainL l = true) : l.map (AV.fz k c) = l := by
  refine List.ext_getElem? fun i => ?_
  rw [List.getElem?_map]
  cases hq : l[i]? with
  | none => rfl
  | some x => rw [Option.map_some, fz_plain' k c (plainL_get h hq)]
theorem fz_below {b k : Nat} (hk : b ≤ k) (c : List AV) {a : AV} (h : a.low b = true) : a.fz k c = a := by
  unfold AV.low at h
  split at h
  · rename_i j _ _ _
    have : j < b := Nat.le_of_ble_eq_true h
    simp only [AV.fz]; rw [bq_ne (show k ≠ j by omega), cond_false]
  · rename_i j _
    have : j < b := Nat.le_of_ble_eq_true h
    simp only [AV.fz]; rw [bq_ne (show k ≠ j by omega), cond_false]
  · exact fz_plain' k c h
theorem fzF_below {b k : Nat} (hk : b ≤ k) (c : List AV) : ∀ {fr : List (Nat × AV)}, belowF b fr = true → fzF k c fr = fr
  | [], _ => rfl
  | p :: l, h => by
    simp only [belowF, Bool.and_eq_true] at h
    simp only [fzF, fz_below hk c h.1, fzF_below hk c h.2]

/-- The rows are not written any more. -/
theorem ent_ror_freeze {R : Hp} {P b m : Nat} {ph : Nat → List Int} {fr : List (Nat × AV)} {n : Nat × Nat × Nat} {nx : Nat} (hP : P < b) (hR : LowH b P R) (hb : belowF b fr = true) :
    Ent ⟨fr, ror R P b m ph, nx, n⟩ ⟨fr, hset R P (some ((List.range m).map fun j => isl (ph j))), nx, n⟩ := by
  have key : ∀ t, t ≤ m → Ent ⟨fr, ror R P b m ph, nx, n⟩ ⟨fr, (fun k => if k = P then some ((List.range m).map fun j => if j < t then isl (ph j) else AV.ls (b + j) 0 1 (ph j).length) else if b + t ≤ k ∧ k < b + m then some (ints (ph (k - b))) else R k), nx, n⟩ := by
    intro t
    induction t with
    | zero =>
      intro _
      refine Ent.of_eq ?_
      simp only [St.mk.injEq, true_and, and_true]
      funext k
      unfold ror rorC
      simp only [Nat.not_lt_zero, if_false, Nat.add_zero]
    | succ t ih =>
      intro ht
      refine (ih (by omega)).trans ?_
      have := ent_freezeH (σ := ⟨fr, (fun k => if k = P then some ((List.range m).map fun j => if j < t then isl (ph j) else AV.ls (b + j) 0 1 (ph j).length) else if b + t ≤ k ∧ k < b + m then some (ints (ph (k - b))) else R k), nx, n⟩) (b + t) (c := ints (ph t))
        (by dsimp only; rw [if_neg (by omega), if_pos (by omega), show b + t - b = t by omega]) (ints_plain _)
      dsimp only at this
      refine this.trans (Ent.of_eq ?_)
      simp only [St.mk.injEq, and_true]
      refine ⟨fzF_below (by omega) _ hb, ?_⟩
      funext k
      rw [hfz']
      by_cases e : b + t = k
      · subst e
        rw [beq_self_eq_true]
        dsimp only
        rw [if_neg (by omega), if_neg (by omega)]
        cases hq : R (b + t) with
        | none => rfl
        | some c => have := hR _ _ hq; omega
      · rw [bq_ne e]
        dsimp only
        by_cases h1 : k = P
        · rw [if_pos h1, if_pos h1, Option.map_some]
          refine congrArg some (List.ext_getElem? fun i => ?_)
          simp only [List.getElem?_map]
          by_cases hi : i < m
          · rw [List.getElem?_range hi]
            simp only [Option.map_some]
            refine congrArg some ?_
            by_cases h3 : i < t
            · rw [if_pos h3, if_pos (by omega)]; exact fz_plain' _ _ (by simp only [isl, AV.plain, ints_plain])
            · rw [if_neg h3]
              by_cases h4 : i = t
              · subst h4
                rw [if_pos (by omega)]
                simp only [AV.fz, beq_self_eq_true, cond_true, Nat.zero_add, Nat.mul_one, ints_length, Nat.le_refl, if_true, List.drop_zero]
                rw [List.take_of_length_le (by rw [ints_length]; omega)]
              · rw [if_neg (by omega)]
                simp only [AV.fz]
                rw [bq_ne (show b + t ≠ b + i by omega), cond_false]
          · rw [List.getElem?_eq_none (by simpa using hi)]; rfl
        · rw [if_neg h1, if_neg h1]
          by_cases h2 : b + t ≤ k ∧ k < b + m
          · rw [if_pos h2, if_pos (by omega), Option.map_some, fzL_plain _ _ (ints_plain _)]
          · rw [if_neg h2, if_neg (by omega)]
            cases hq : R k with
            | none => rfl
            | some c => rw [Option.map_some, fzL_plain _ _ (hR k c hq).2.2]
  refine (key m (Nat.le_refl _)).trans (Ent.of_eq ?_)
  simp only [St.mk.injEq, true_and, and_true]
  funext k
  rw [hset']
  by_cases h1 : k = P
  · subst h1
    rw [if_pos rfl, beq_self_eq_true]
    dsimp only
    refine congrArg some (List.ext_getElem? fun i => ?_)
    by_cases hi : i < m
    · simp [hi]
    · simp [hi]
  · rw [if_neg h1, bq_ne (Ne.symm h1), if_neg (by omega)]

/-! ### some rows -/
def hls : List (Nat × List AV) → Hp
  | [] => emp
  | p :: l => hset (hls l) p.1 (some p.2)
def rowsOk (H : Hp) (nx : Nat) : List (Nat × List AV) → Prop
  | [] => True
  | p :: l => (H p.1 = some p.2 ∧ p.1 < nx) ∧ rowsOk H nx l
theorem hls_some {H : Hp} {nx : Nat} : ∀ {l : List (Nat × List AV)}, rowsOk H nx l → ∀ k c, hls l k = some c → H k = some c ∧ k < nx
  | [], _, k, c, h => by cases h
  | p :: l, ⟨h1, h2⟩, k, c, h => by
    unfold hls at h
    rw [hset'] at h
    by_cases e : p.1 = k
    · subst e
      rw [beq_self_eq_true] at h
      cases h
      exact h1
    · rw [bq_ne e] at h
      exact hls_some h2 k c h
/-- Slots and rows are forgotten. -/
theorem ent_rows {σ : St} {fr : List (Nat × AV)} {n : Nat × Nat × Nat} {nx : Nat} (l : List (Nat × List AV)) (hs : slotsE σ.fr fr) (hn : n = σ.n) (hh : rowsOk σ.hp nx l) (hx : σ.nx ≤ nx) : Ent σ ⟨fr, hls l, nx, n⟩ :=
  ent_eq_hp hs hn (fun k c hk => (hls_some hh k c hk).1) hx fun k hk => by
    cases e : hls l k with
    | none => exact e
    | some c => have := (hls_some hh k c e).2; have hk' : nx ≤ k := hk; omega
theorem splice_set1 {cs : List AV} {i : Nat} (x : AV) (h : i < cs.length) : splice cs i [x] = cs.set i x := by
  unfold splice
  rw [List.set_eq_take_append_cons_drop, if_pos h]
  rfl
theorem zrep_rep (a : AV) (n : Nat) : zrep [a] n = List.replicate n a := by
  induction n with
  | zero => rfl
  | succ n ih => unfold zrep at *; rw [List.replicate_succ, List.flatten_cons, ih, List.replicate_succ]; rfl
end Go.Ab

import Derived.Test.YtbobgnkohnbonaaW4
import Derived.Test.YtbobgnkohnbonaaAbD
set_option maxRecDepth 100000
set_option maxHeartbeats 4000000
set_option linter.unusedSimpArgs false
set_option linter.unusedVariables false
namespace Go.Proofs.Ytbobgnkohnbonaa
open Go.Ab Go.RowKit
def wcl (Z : List Int) : List AV := Z.flatMap fun z => [iv z.sign, isl (digs z.natAbs)]
theorem wcl_len : ∀ Z : List Int, (wcl Z).length = Z.length * 2
  | [] => rfl
  | z :: Z => by
    have := wcl_len Z
    simp only [wcl, List.flatMap_cons, List.length_append, List.length_cons, List.length_nil] at this ⊢
    omega
theorem wcl_drop : ∀ (Z : List Int) (i : Nat), (wcl Z).drop (i * 2) = wcl (Z.drop i)
  | _, 0 => by simp
  | [], i + 1 => by simp [wcl]
  | z :: Z, i + 1 => by
    rw [show (i + 1) * 2 = i * 2 + 2 by omega]
    have := wcl_drop Z i
    simp only [wcl, List.flatMap_cons, List.drop_succ_cons] at this ⊢
    rw [← this]
    rfl
theorem wcl_at {Z : List Int} {i : Nat} (h : i < Z.length) : ((wcl Z).drop (i * 2)).take 2 = [iv (gi Z (i : Nat)).sign, isl (digs (gi Z (i : Nat)).natAbs)] := by
  have g : gi Z (i : Nat) = Z[i] := by simp [gi, h]
  rw [wcl_drop, List.drop_eq_getElem_cons h, g]
  rfl
theorem wcl_snoc (Z : List Int) (z : Int) : wcl (Z ++ [z]) = wcl Z ++ [iv z.sign, isl (digs z.natAbs)] := by
  simp [wcl]
def scD (Z : List Int) (t : Nat) : Int := gi Z (t : Nat) + gi Z ((t + 2 : Nat) : Int) - (gi Z ((t + 1 : Nat) : Int) + gi Z ((t + 1 : Nat) : Int))
def scTo (Z : List Int) (t : Nat) : Int := sumTo (fun t => scD Z t * scD Z t) t
theorem scD_bound {Z : List Int} (hZ : ∀ i : Nat, -100000000000000 ≤ gi Z (i : Nat) ∧ gi Z (i : Nat) ≤ 100000000000000) (t : Nat) : -400000000000000 ≤ scD Z t ∧ scD Z t ≤ 400000000000000 := by
  have h1 := hZ t
  have h2 := hZ (t + 2)
  have h3 := hZ (t + 1)
  unfold scD
  omega
theorem dl {n : Int} (k : Nat) (h : -(1000000000 : Int) ^ k < n ∧ n < 1000000000 ^ k) : (digs n.natAbs).length ≤ k := by
  refine digs_len ?_
  have h1 : ((n.natAbs : Nat) : Int) < (1000000000 : Int) ^ k := by omega
  rw [show (1000000000 : Int) = ((1000000000 : Nat) : Int) from rfl, ← Int.natCast_pow] at h1
  exact Int.ofNat_lt.1 h1
theorem dl2 {n : Int} (h : -400000000000000 ≤ n ∧ n ≤ 400000000000000) : (digs n.natAbs).length ≤ 2 := dl 2 (by
  have : (1000000000 : Int) ^ 2 = 1000000000000000000 := by decide
  rw [this]; omega)
theorem dl4 {n : Int} (h : -100000000000000000000000000000000 ≤ n ∧ n ≤ 100000000000000000000000000000000) : (digs n.natAbs).length ≤ 4 := dl 4 (by
  have : (1000000000 : Int) ^ 4 = 1000000000000000000000000000000000000 := by decide
  rw [this]; omega)
theorem scTo_bound {Z : List Int} (hZ : ∀ i : Nat, -100000000000000 ≤ gi Z (i : Nat) ∧ gi Z (i : Nat) ≤ 100000000000000) {t : Nat} (ht : t ≤ 200) : -100000000000000000000000000000000 ≤ scTo Z t ∧ scTo Z t ≤ 100000000000000000000000000000000 := by
  have h := sumTo_abs (f := fun t => scD Z t * scD Z t) (c := 400000000000000 * 400000000000000) (n := t) fun i _ => mulAbs (scD_bound hZ i) (scD_bound hZ i)
  unfold scTo
  omega
theorem c_scaled (Z : List Int) (hn : Z.length ≤ 200) (hZ : ∀ i : Nat, -100000000000000 ≤ gi Z (i : Nat) ∧ gi Z (i : Nat) ≤ 100000000000000) : Pure Try.prog 55 [.sl 2 Z.length (wcl Z)] (wd (scTo Z (Z.length - 2))) := by
  have hW0 := c_WideOf 0 (by omega)
  have hcl := wcl_len Z
  unfold wd at hW0
  refine p_intro evOk [2, 3, 5] Try.func55 rfl Try.call55 ?_
  have n0 : ((0 : Nat) : Int) = 0 := rfl
  repeat' first
   | refine v_seq ?_ | refine v_block ?_ | refine v_ret ?_ | refine v_skip ?_ | (refine v_exit ?_; repeat' first | refine xB_eq ?_ | refine xB_ne rfl ?_)
   | ((first | refine rgA fun K hK => ?_ | refine rgB rfl fun K hK => ?_ | refine rgC rfl fun K hK => ?_); simp only [go_sem,simprocAttr])
   | (simp (disch := first | omega | rfl | (simp only [lnn]; omega)) only [spl])
   | (refine hK _ ?_; clear hK K)
   | (refine gdB_intro (fun h => ?_) (fun h => ?_) <;> simp only [go_sem,simprocAttr,h] <;> (have h' := h; try simp only [bl] at h'))
   | (refine v_cond rfl (fun h => ?_) (fun h => ?_) <;> first | (exact Bool.noConfusion h) | (have h' := h; try simp only [bl] at h'))
   | (refine r_ret ?_; simp only [resL, resA, Try.f55, lk_cons', lk_nil', Nat.reduceBEq]; first | exact ⟨rfl, Sb.nil _, rfl⟩ | refine ⟨rfl, sbt ?_, rfl⟩ | refine ⟨rfl, Sb.of_eq ?_, rfl⟩)
   | (refine And.intro (by first | exact True.intro | omega | rfl | exact Nat.le_of_ble_eq_true rfl | (simp only [lnn]; omega) | exact List.forall_mem_nil _ | (refine List.forall_mem_cons.2 ⟨⟨_, rfl⟩, ?_⟩; repeat' first | exact List.forall_mem_nil _ | refine List.forall_mem_cons.2 ⟨⟨_, rfl⟩, ?_⟩)) ?_)
   | ((first | refine call_pure' (hW0) rfl ?_); simp only [go_sem,simprocAttr])
   | fail
  have hd0 : digs 0 = [] := digs_zero
  refine v_loop (T := Nat) (fun t => ⟨[(0, .sl 2 Z.length (wcl Z)), (2, .lp 0 0), (3, .lp 1 0), (4, iv ((t : Int) + 1))], hls [(1, [iv (scTo Z t).sign, isl (digs (scTo Z t).natAbs)]), (0, [iv 0, .v (.slice none 0 0)])], 2 + t, (41, 0, 0)⟩) (fun t => t ≤ Z.length - 2) (fun t => Z.length - 2 - t) 0 (by omega) (ent_rows _ (by (repeat' first | exact trivial | refine ⟨?_, ?_⟩ | rfl)) rfl (by simp only [rowsOk, hset', hls]; simp [scTo, sumTo, splice]) (Nat.le_add_right _ _)) ?_
  intro t ht
  have b0 := hZ t
  have b1 := hZ (t + 1)
  have b2 := hZ (t + 2)
  have bD := scD_bound hZ t
  have bS := scTo_bound hZ (t := t) (by omega)
  by_cases h2 : t + 2 < Z.length
  · have hd : decide ((t : Int) + 1 + 1 < Z.length) = true := decide_eq_true (by omega)
    have e0 : ((t : Int) + 1 - 1).toNat = t := by omega
    have e1 : ((t : Int) + 1).toNat = t + 1 := by omega
    have e2 : ((t : Int) + 1 + 1).toNat = t + 2 := by omega
    have w0 := wcl_at (Z := Z) (i := t) (by omega)
    have w1 := wcl_at (Z := Z) (i := t + 1) (by omega)
    have w2 := wcl_at (Z := Z) (i := t + 2) (by omega)
    have hA := c_WideAdd (gi Z (t : Nat)) (gi Z ((t + 2 : Nat) : Int)) (Nat.le_trans (dl2 (by omega)) (by decide)) (Nat.le_trans (dl2 (by omega)) (by decide))
    have hB := c_WideAdd (gi Z ((t + 1 : Nat) : Int)) (gi Z ((t + 1 : Nat) : Int)) (Nat.le_trans (dl2 (by omega)) (by decide)) (Nat.le_trans (dl2 (by omega)) (by decide))
    have hS := c_WideSub (gi Z (t : Nat) + gi Z ((t + 2 : Nat) : Int)) (gi Z ((t + 1 : Nat) : Int) + gi Z ((t + 1 : Nat) : Int)) (Nat.le_trans (dl2 (by omega)) (by decide)) (Nat.le_trans (dl2 (by omega)) (by decide))
    have hM := c_WideMul (scD Z t) (scD Z t) (Nat.le_trans (dl2 bD) (by decide)) (Nat.le_trans (dl2 bD) (by decide))
    have bDD := mulAbs bD bD
    have hE := c_WideAdd (scTo Z t) (scD Z t * scD Z t) (Nat.le_trans (dl4 bS) (by decide)) (Nat.le_trans (dl4 (by omega)) (by decide))
    rw [show gi Z (t : Nat) + gi Z ((t + 2 : Nat) : Int) - (gi Z ((t + 1 : Nat) : Int) + gi Z ((t + 1 : Nat) : Int)) = scD Z t from rfl] at hS
    rw [show scTo Z t + scD Z t * scD Z t = scTo Z (t + 1) from rfl] at hE
    unfold wd at hA hB hS hM hE
    have x1 : (1 == 2 + t) = false := beq_ne (by omega)
    have x2 : (2 + t == 1) = false := beq_ne (by omega)
    have x3 : (0 == 2 + t) = false := beq_ne (by omega)
    have x4 : (2 + t == 0) = false := beq_ne (by omega)
    repeat' first
     | refine v_seq ?_ | refine v_block ?_ | refine v_ret ?_ | refine v_skip ?_ | (refine v_exit ?_; repeat' first | refine xB_eq ?_ | refine xB_ne rfl ?_)
     | ((first | refine rgA fun K hK => ?_ | refine rgB rfl fun K hK => ?_ | refine rgC rfl fun K hK => ?_); simp only [go_sem,simprocAttr,n0,hd,hcl,hls,x1,x2,x3,x4,e0,e1,e2,w0,w1,w2,hset_at,hset_hset])
     | (simp (disch := first | omega | rfl | (simp only [lnn]; omega)) only [spl])
     | (refine hK _ ?_; clear hK K)
     | (refine gdB_intro (fun h => ?_) (fun h => ?_) <;> simp only [go_sem,simprocAttr,h,n0,hd,hcl,hls,x1,x2,x3,x4,e0,e1,e2,w0,w1,w2,hset_at,hset_hset] <;> (have h' := h; try simp only [bl] at h'))
     | (refine v_cond rfl (fun h => ?_) (fun h => ?_) <;> first | (exact Bool.noConfusion h) | (have h' := h; try simp only [bl] at h'))
     | (refine r_ret ?_; simp only [resL, resA, Try.f55, lk_cons', lk_nil', Nat.reduceBEq]; first | exact ⟨rfl, Sb.nil _, rfl⟩ | refine ⟨rfl, sbt ?_, rfl⟩ | refine ⟨rfl, Sb.of_eq ?_, rfl⟩)
     | (refine And.intro (by first | exact True.intro | omega | rfl | exact Nat.le_of_ble_eq_true rfl | (simp only [lnn]; omega) | exact List.forall_mem_nil _ | (refine List.forall_mem_cons.2 ⟨⟨_, rfl⟩, ?_⟩; repeat' first | exact List.forall_mem_nil _ | refine List.forall_mem_cons.2 ⟨⟨_, rfl⟩, ?_⟩)) ?_)
     | ((first | refine call_pure' (hA) rfl ?_ | refine call_pure' (hB) rfl ?_ | refine call_pure' (hS) rfl ?_ | refine call_pure' (hM) rfl ?_ | refine call_pure' (hE) rfl ?_); simp only [go_sem,simprocAttr,n0,hd,hcl,hls,x1,x2,x3,x4,e0,e1,e2,w0,w1,w2,hset_at,hset_hset])
     | (refine v_drawA evOk rfl (fun K hK => ?_); simp only [go_sem,simprocAttr,n0,hls,x1,x2,x3,x4,e0,e1,e2,w0,w1,w2,hcl,hset_at,hset_hset])
     | (simp only [go_sem,simprocAttr,hcl,isl,x1,x2,x3,x4,e0,e1,e2,w0,w1,w2,hset_at,hset_hset])
     | fail
    all_goals try (exfalso; omega)
    exact ⟨t + 1, ent_rows _ (by (repeat' first | exact trivial | refine ⟨?_, ?_⟩ | rfl)) rfl ⟨⟨by simp only [hset', beq_self_eq_true]; rfl, by omega⟩, ⟨by simp only [hset', x1, x2, x3, x4]; rfl, by omega⟩, trivial⟩ (Nat.le_refl _), by omega, by omega⟩
  · have hd : decide ((t : Int) + 1 + 1 < Z.length) = false := decide_eq_false (by omega)
    obtain rfl : t = Z.length - 2 := by omega
    repeat' first
     | refine v_seq ?_ | refine v_block ?_ | refine v_ret ?_ | refine v_skip ?_ | (refine v_exit ?_; repeat' first | refine xB_eq ?_ | refine xB_ne rfl ?_)
     | ((first | refine rgA fun K hK => ?_ | refine rgB rfl fun K hK => ?_ | refine rgC rfl fun K hK => ?_); simp only [go_sem,simprocAttr,n0,hd,hls])
     | (simp (disch := first | omega | rfl | (simp only [lnn]; omega)) only [spl])
     | (refine hK _ ?_; clear hK K)
     | (refine gdB_intro (fun h => ?_) (fun h => ?_) <;> simp only [go_sem,simprocAttr,h,n0,hd,hls] <;> (have h' := h; try simp only [bl] at h'))
     | (refine v_cond rfl (fun h => ?_) (fun h => ?_) <;> first | (exact Bool.noConfusion h) | (have h' := h; try simp only [bl] at h'))
     | (refine r_ret ?_; simp only [resL, resA, Try.f55, lk_cons', lk_nil', Nat.reduceBEq]; first | exact ⟨rfl, Sb.nil _, rfl⟩ | refine ⟨rfl, sbt ?_, rfl⟩ | refine ⟨rfl, Sb.of_eq ?_, rfl⟩)
     | (refine And.intro (by first | exact True.intro | omega | rfl | exact Nat.le_of_ble_eq_true rfl | (simp only [lnn]; omega) | exact List.forall_mem_nil _ | (refine List.forall_mem_cons.2 ⟨⟨_, rfl⟩, ?_⟩; repeat' first | exact List.forall_mem_nil _ | refine List.forall_mem_cons.2 ⟨⟨_, rfl⟩, ?_⟩)) ?_)
     | fail
    all_goals try (exfalso; omega)
    unfold wd
    generalize digs (scTo Z (Z.length - 2)).natAbs = D at *
    exact r_cell (t := 2) (ty := 82) (k := 0) (cs := [iv (scTo Z (Z.length - 2)).sign, isl D]) rfl rfl rfl rfl rfl rfl rfl rfl
end Go.Proofs.Ytbobgnkohnbonaa

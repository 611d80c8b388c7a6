/- Parts of the proof, put together by a program. -/
import Derived.Test.YtabmhfmglhjmjaaGreatDoorYan
import Derived.Test.YtabmhfmglhjmjaaGreatDoorYat
import Derived.Test.YtabmhfmglhjmjaaGreatDoorYav
import Derived.Test.YtabmhfmglhjmjaaGreatDoorYay
set_option maxRecDepth 100000
set_option maxHeartbeats 4000000
set_option linter.unusedSimpArgs false
set_option linter.unusedVariables false
set_option linter.unusedSectionVars false
namespace Go.Proofs.YtabmhfmglhjmjaaGreatDoor
open Go.Ab Go.RowKit
variable [Dr]
theorem c_SameDamages (l : List Dg) (hl : Len l.length) : Pure Tryz.prog 59 [.sl 3 l.length (dcs l), .sl 3 l.length (dcs l)] (AV.v (.bool true)) := by
  have hL := dcs_len l
  unfold Len at hl
  have hll : ((l.length : Int) != (l.length : Nat)) = false := by simp
  refine p_intro evOk [] Tryz.func59 rfl Tryz.call59 ?_
  repeat' first
   | refine v_seq ?_ | refine v_block ?_ | refine v_ret ?_ | refine v_skip ?_ | (refine v_exit ?_; repeat' first | refine xB_eq ?_ | refine xB_ne rfl ?_)
   | ((first | refine rgA fun K hK => ?_ | refine rgB rfl fun K hK => ?_ | refine rgC rfl fun K hK => ?_); simp only [go_sem,simprocAttr,hll])
   | (simp (disch := first | omega | rfl | (simp only [lnn]; omega)) only [spl])
   | (refine hK _ ?_; clear hK K)
   | (refine gdB_intro (fun h => ?_) (fun h => ?_) <;> simp only [go_sem,simprocAttr,h,hll] <;> (have h' := h; try simp only [bl] at h'))
   | (refine v_cond rfl (fun h => ?_) (fun h => ?_) <;> first | (exact Bool.noConfusion h) | (have h' := h; try simp only [bl] at h'))
   | (refine r_ret ?_; simp only [resL, resA, Tryz.f59, lk_cons', lk_nil', Nat.reduceBEq]; first | exact ⟨rfl, Sb.nil _, rfl⟩ | refine ⟨rfl, sbt ?_, rfl⟩ | refine ⟨rfl, Sb.of_eq ?_, rfl⟩)
   | (refine And.intro (by first | exact True.intro | omega | rfl | exact Nat.le_of_ble_eq_true rfl | (simp only [lnn]; omega) | exact List.forall_mem_nil _ | (refine List.forall_mem_cons.2 ⟨⟨_, rfl⟩, ?_⟩; repeat' first | exact List.forall_mem_nil _ | refine List.forall_mem_cons.2 ⟨⟨_, rfl⟩, ?_⟩)) ?_)
   | fail
  all_goals try (exfalso; simp_all; done)
  refine v_loop (T := Nat) (fun i => ⟨[(0, .sl 3 l.length (dcs l)), (1, .sl 3 l.length (dcs l)), (5, iv i)], emp, 0, (26, 0, 0)⟩) (fun i => i ≤ l.length) (fun i => l.length - i) 0 (by omega) (by (refine ent_eq ?_ rfl rfl rfl; repeat' first | exact trivial | refine ⟨?_, ?_⟩ | rfl)) ?_
  intro i hi
  by_cases hi2 : i < l.length
  · have hd : decide ((i : Int) < l.length) = true := decide_eq_true (by omega)
    have g1 : List.take 3 (List.drop (((i : Nat) : Int).toNat * 3) (dcs l)) = [.v (.string (gd7 l i).nm), iv (gd7 l i).lo, iv (gd7 l i).hi] := dcs_at hi2
    repeat' first
     | refine v_seq ?_ | refine v_block ?_ | refine v_ret ?_ | refine v_skip ?_ | (refine v_exit ?_; repeat' first | refine xB_eq ?_ | refine xB_ne rfl ?_)
     | ((first | refine rgA fun K hK => ?_ | refine rgB rfl fun K hK => ?_ | refine rgC rfl fun K hK => ?_); simp only [go_sem,simprocAttr,hd,hL,g1])
     | (simp (disch := first | omega | rfl | (simp only [lnn]; omega)) only [spl])
     | (refine hK _ ?_; clear hK K)
     | (refine gdB_intro (fun h => ?_) (fun h => ?_) <;> simp only [go_sem,simprocAttr,h,hd,hL,g1] <;> (have h' := h; try simp only [bl] at h'))
     | (refine v_cond rfl (fun h => ?_) (fun h => ?_) <;> first | (exact Bool.noConfusion h) | (have h' := h; try simp only [bl] at h'))
     | (refine r_ret ?_; simp only [resL, resA, Tryz.f59, lk_cons', lk_nil', Nat.reduceBEq]; first | exact ⟨rfl, Sb.nil _, rfl⟩ | refine ⟨rfl, sbt ?_, rfl⟩ | refine ⟨rfl, Sb.of_eq ?_, rfl⟩)
     | (refine And.intro (by first | exact True.intro | omega | rfl | exact Nat.le_of_ble_eq_true rfl | (simp only [lnn]; omega) | exact List.forall_mem_nil _ | (refine List.forall_mem_cons.2 ⟨⟨_, rfl⟩, ?_⟩; repeat' first | exact List.forall_mem_nil _ | refine List.forall_mem_cons.2 ⟨⟨_, rfl⟩, ?_⟩)) ?_)
     | fail
    all_goals try (exfalso; simp_all; done)
    exact ⟨i + 1, by (refine ent_eq ?_ rfl rfl rfl; repeat' first | exact trivial | refine ⟨?_, ?_⟩ | rfl), by omega, by omega⟩
  · obtain rfl : i = l.length := by omega
    have hd : decide ((l.length : Int) < l.length) = false := decide_eq_false (by omega)
    repeat' first
     | refine v_seq ?_ | refine v_block ?_ | refine v_ret ?_ | refine v_skip ?_ | (refine v_exit ?_; repeat' first | refine xB_eq ?_ | refine xB_ne rfl ?_)
     | ((first | refine rgA fun K hK => ?_ | refine rgB rfl fun K hK => ?_ | refine rgC rfl fun K hK => ?_); simp only [go_sem,simprocAttr,hd])
     | (simp (disch := first | omega | rfl | (simp only [lnn]; omega)) only [spl])
     | (refine hK _ ?_; clear hK K)
     | (refine gdB_intro (fun h => ?_) (fun h => ?_) <;> simp only [go_sem,simprocAttr,h,hd] <;> (have h' := h; try simp only [bl] at h'))
     | (refine v_cond rfl (fun h => ?_) (fun h => ?_) <;> first | (exact Bool.noConfusion h) | (have h' := h; try simp only [bl] at h'))
     | (refine r_ret ?_; simp only [resL, resA, Tryz.f59, lk_cons', lk_nil', Nat.reduceBEq]; first | exact ⟨rfl, Sb.nil _, rfl⟩ | refine ⟨rfl, sbt ?_, rfl⟩ | refine ⟨rfl, Sb.of_eq ?_, rfl⟩)
     | (refine And.intro (by first | exact True.intro | omega | rfl | exact Nat.le_of_ble_eq_true rfl | (simp only [lnn]; omega) | exact List.forall_mem_nil _ | (refine List.forall_mem_cons.2 ⟨⟨_, rfl⟩, ?_⟩; repeat' first | exact List.forall_mem_nil _ | refine List.forall_mem_cons.2 ⟨⟨_, rfl⟩, ?_⟩)) ?_)
     | fail
    all_goals rfl
def dnR (done : Nat → Bool) (T : Nat) : List AV := (List.range T).map fun i => .v (.bool (done i))
theorem dnR_len (done : Nat → Bool) (T : Nat) : (dnR done T).length = T := by simp [dnR]
theorem dnR_at {done : Nat → Bool} {T i : Nat} (h : i < T) : (dnR done T)[i]? = some (.v (.bool (done i))) := by simp [dnR, h]
theorem dnR_splice {done : Nat → Bool} {T b : Nat} (h : b < T) : splice (dnR done T) b [.v (.bool true)] = dnR (fun j => if j = b then true else done j) T := by
  refine List.ext_getElem? fun j => ?_
  unfold splice
  have hlt : (List.take b (dnR done T)).length = b := by rw [List.length_take, dnR_len]; omega
  rcases Nat.lt_trichotomy j b with hj | hj | hj
  · rw [List.getElem?_append_left (by omega), List.getElem?_take_of_lt hj, dnR_at (by omega), dnR_at (by omega), if_neg (by omega)]
  · subst hj
    rw [List.getElem?_append_right (by omega), hlt, Nat.sub_self, dnR_at h, if_pos rfl]
    rfl
  · rw [List.getElem?_append_right (by omega), hlt, List.getElem?_append_right (by simp; omega), List.getElem?_drop]
    have e : b + [AV.v (Value.bool true)].length + (j - b - [AV.v (Value.bool true)].length) = j := by simp; omega
    rw [e]
    by_cases hjT : j < T
    · rw [dnR_at hjT, dnR_at hjT, if_neg (by omega)]
    · rw [List.getElem?_eq_none (by rw [dnR_len]; omega), List.getElem?_eq_none (by rw [dnR_len]; omega)]
theorem dnR_start (T : Nat) : zrep [AV.v (.bool false)] T = dnR (fun _ => false) T := by
  rw [zrep_sing]
  unfold dnR
  refine List.ext_getElem? fun j => ?_
  by_cases h : j < T <;> simp [h]
def LastOk (nm : ByteArray) (last : Int) (D : List Dg) : Prop := (last = -2 ∧ ∀ d ∈ D, d.nm ≠ nm) ∨ (0 ≤ last ∧ ∃ d R, D = d :: R ∧ d.nm = nm ∧ d.hi = last)
theorem last_step {nm : ByteArray} {last : Int} {D : List Dg} {p : Nat} (h : LastOk nm last D) :
    (last = (p : Int) - 1 ∧ ∃ d R, D = d :: R ∧ stepD nm (p : Nat) D = ⟨d.nm, d.lo, (p : Nat)⟩ :: R) ∨ (last ≠ (p : Int) - 1 ∧ stepD nm (p : Nat) D = ⟨nm, (p : Nat), (p : Nat)⟩ :: D) := by
  rcases h with ⟨rfl, h1⟩ | ⟨h0, d, R, rfl, h1, h2⟩
  · right
    refine ⟨by omega, ?_⟩
    cases D with
    | nil => rfl
    | cons d R =>
      rw [stepD, nmEq_false.2 (h1 d (by simp))]
      rfl
  · rw [stepD, nmEq_iff.2 h1, Bool.true_and, h2]
    by_cases e : last = (p : Int) - 1
    · left
      refine ⟨e, d, R, rfl, ?_⟩
      rw [show (last == (p : Int) - 1) = true by simpa using e]; rfl
    · right
      refine ⟨e, ?_⟩
      rw [show (last == (p : Int) - 1) = false by simpa using e]; rfl
theorem last_next {nm : ByteArray} {last : Int} {D : List Dg} {p : Nat} (h : LastOk nm last D) : LastOk nm (p : Nat) (stepD nm (p : Nat) D) := by
  right
  refine ⟨by omega, ?_⟩
  rcases last_step (p := p) h with ⟨_, d, R, rfl, e⟩ | ⟨_, e⟩
  · rcases h with ⟨_, h1⟩ | ⟨_, d', R', h2, h3, _⟩
    · exact ⟨_, _, e, by
        rename_i hl
        exact absurd hl (by omega), rfl⟩
    · cases h2
      exact ⟨_, _, e, h3, rfl⟩
  · exact ⟨_, _, e, rfl, rfl⟩
theorem c_refDamaged (ts : List Tf) (N : Nat) (limit : Int) (hT : TfOk ts) (hN : N ≤ 200) (hlim : 0 ≤ limit ∧ limit ≤ 65534) : Pure Tryz.prog 60 [tsl ts, isl (meds ts N), iv limit] (.sl 3 (dmgs ts limit N).length (dcs (dmgs ts limit N))) := by
  have h6 := hT.n6
  have h1 := hT.n1
  have hml := meds_len ts N
  have n0 : ((0 : Nat) : Int) = 0 := rfl
  have hL := tcs_len ts
  have hbl := byN_len ts
  have hds := dnR_start ts.length
  obtain ⟨R, hR⟩ : ∃ R : Nat → List Dg, ∀ i, R i = dmgR (meds ts N) limit N ((byN ts).take i) := ⟨_, fun _ => rfl⟩
  have hRl : ∀ i, i ≤ ts.length → (R i).length ≤ 6 * N := fun i hi => by
    rw [hR]
    refine Nat.le_trans (dmgR_len _ _ _ _) (Nat.mul_le_mul_right _ ?_)
    rw [List.length_take, hbl]; omega
  refine p_intro evOk [7, 12, 17] Tryz.func60 rfl Tryz.call60 ?_
  repeat' first
   | refine v_seq ?_ | refine v_block ?_ | refine v_ret ?_ | refine v_skip ?_ | (refine v_exit ?_; repeat' first | refine xB_eq ?_ | refine xB_ne rfl ?_)
   | ((first | refine rgA fun K hK => ?_ | refine rgB rfl fun K hK => ?_ | refine rgC rfl fun K hK => ?_); simp only [go_sem,simprocAttr,n0,hds])
   | (simp (disch := first | omega | rfl | (simp only [lnn]; omega)) only [spl])
   | (refine hK _ ?_; clear hK K)
   | (refine gdB_intro (fun h => ?_) (fun h => ?_) <;> simp only [go_sem,simprocAttr,h,n0,hds] <;> (have h' := h; try simp only [bl] at h'))
   | (refine v_cond rfl (fun h => ?_) (fun h => ?_) <;> first | (exact Bool.noConfusion h) | (have h' := h; try simp only [bl] at h'))
   | (refine r_ret ?_; simp only [resL, resA, Tryz.f60, lk_cons', lk_nil', Nat.reduceBEq]; first | exact ⟨rfl, Sb.nil _, rfl⟩ | refine ⟨rfl, sbt ?_, rfl⟩ | refine ⟨rfl, Sb.of_eq ?_, rfl⟩)
   | (refine And.intro (by first | exact True.intro | omega | rfl | exact Nat.le_of_ble_eq_true rfl | (simp only [lnn]; omega) | exact List.forall_mem_nil _ | (refine List.forall_mem_cons.2 ⟨⟨_, rfl⟩, ?_⟩; repeat' first | exact List.forall_mem_nil _ | refine List.forall_mem_cons.2 ⟨⟨_, rfl⟩, ?_⟩)) ?_)
   | fail
  refine v_loop (T := Nat × Nat × Nat × (Nat → Bool)) (fun x => ⟨[(0, tsl ts), (1, isl (meds ts N)), (2, iv limit), (7, .ls x.2.1 0 3 (R x.1).length), (8, .ls 1 0 1 ts.length), (9, iv x.1)], hls [(1, dnR x.2.2.2 ts.length), (x.2.1, dcs (R x.1).reverse)], x.2.2.1, (107, 0, 0)⟩) (fun x => x.1 ≤ ts.length ∧ x.2.1 ≠ 1 ∧ x.2.1 < x.2.2.1 ∧ 1 < x.2.2.1 ∧ DoneOk ts x.2.2.2 x.1) (fun x => ts.length - x.1) (0, 0, 2, fun _ => false) ⟨by (first | omega | (dsimp only; omega)), by (first | omega | (dsimp only; omega)), by (first | omega | (dsimp only; omega)), by (first | omega | (dsimp only; omega)), done_start ts⟩ ?_ ?_
  · have hR0 : R 0 = [] := by rw [hR]; rfl
    dsimp only
    rw [hR0]
    exact ent_rows [(1, dnR (fun _ => false) ts.length), (0, dcs ([] : List Dg))] (by (repeat' first | exact trivial | refine ⟨?_, ?_⟩ | rfl | (refine congrArg (fun z => some (AV.v (Value.int .i64 z))) ?_; omega))) rfl ⟨⟨by simp [hset', hls, hds], by (first | omega | (dsimp only; omega))⟩, ⟨by simp [hset', hls, dcs], by (first | omega | (dsimp only; omega))⟩, True.intro⟩ (Nat.le_refl _)
  rintro ⟨n, r, Y, done⟩ ⟨hn, hr1, hrY, hY1, hdo⟩
  dsimp only at hn hr1 hrY hY1 hdo ⊢
  have q0 : (r == 1) = false := beq_ne hr1
  have q1 : (1 == r) = false := beq_ne (Ne.symm hr1)
  have y0 : (Y == 1) = false := beq_ne (by omega)
  have y1 : (1 == Y) = false := beq_ne (by omega)
  have y2 : (Y == r) = false := beq_ne (by omega)
  have y3 : (r == Y) = false := beq_ne (by omega)
  have hdnl := dnR_len done ts.length
  by_cases hn2 : n < ts.length
  · have hd : decide ((n : Int) < ts.length) = true := decide_eq_true (by omega)
    repeat' first
     | refine v_seq ?_ | refine v_block ?_ | refine v_ret ?_ | refine v_skip ?_ | (refine v_exit ?_; repeat' first | refine xB_eq ?_ | refine xB_ne rfl ?_)
     | ((first | refine rgA fun K hK => ?_ | refine rgB rfl fun K hK => ?_ | refine rgC rfl fun K hK => ?_); simp only [go_sem,simprocAttr,hd,n0,hls])
     | (simp (disch := first | omega | rfl | (simp only [lnn]; omega)) only [spl])
     | (refine hK _ ?_; clear hK K)
     | (refine gdB_intro (fun h => ?_) (fun h => ?_) <;> simp only [go_sem,simprocAttr,h,hd,n0,hls] <;> (have h' := h; try simp only [bl] at h'))
     | (refine v_cond rfl (fun h => ?_) (fun h => ?_) <;> first | (exact Bool.noConfusion h) | (have h' := h; try simp only [bl] at h'))
     | (refine r_ret ?_; simp only [resL, resA, Tryz.f60, lk_cons', lk_nil', Nat.reduceBEq]; first | exact ⟨rfl, Sb.nil _, rfl⟩ | refine ⟨rfl, sbt ?_, rfl⟩ | refine ⟨rfl, Sb.of_eq ?_, rfl⟩)
     | (refine And.intro (by first | exact True.intro | omega | rfl | exact Nat.le_of_ble_eq_true rfl | (simp only [lnn]; omega) | exact List.forall_mem_nil _ | (refine List.forall_mem_cons.2 ⟨⟨_, rfl⟩, ?_⟩; repeat' first | exact List.forall_mem_nil _ | refine List.forall_mem_cons.2 ⟨⟨_, rfl⟩, ?_⟩)) ?_)
     | fail
    refine v_loop (T := Nat) (fun i => ⟨[(0, tsl ts), (1, isl (meds ts N)), (2, iv limit), (7, .ls r 0 3 (R n).length), (8, .ls 1 0 1 ts.length), (9, iv n), (10, iv (selN ts done i)), (11, iv i)], hls [(1, dnR done ts.length), (r, dcs (R n).reverse)], Y, (107, 0, 0)⟩) (fun i => i ≤ ts.length) (fun i => ts.length - i) 0 (by omega) ?_ ?_
    · exact ent_rows [(1, dnR done ts.length), (r, dcs (R n).reverse)] (by (repeat' first | exact trivial | refine ⟨?_, ?_⟩ | rfl | (refine congrArg (fun z => some (AV.v (Value.int .i64 z))) ?_; omega))) rfl ⟨⟨by simp [hset', hls, q0, q1], by (first | omega | (dsimp only; omega))⟩, ⟨by simp [hset', hls, q0, q1], by (first | omega | (dsimp only; omega))⟩, True.intro⟩ (Nat.le_refl _)
    intro i hi
    by_cases hi2 : i < ts.length
    · have hd2 : decide ((i : Int) < ts.length) = true := decide_eq_true (by omega)
      have t1 : (tcs ts)[((i : Nat) : Int).toNat * 3]? = some (.v (.string (gt7 ts i).nm)) := tcs_0 hi2
      have d1 : (dnR done ts.length)[((i : Nat) : Int).toNat * 1]? = some (.v (.bool (done i))) := by rw [Int.toNat_natCast, Nat.mul_one]; exact dnR_at hi2
      have d1' : (dnR done ts.length)[((i : Nat) : Int).toNat]? = some (.v (.bool (done i))) := by rw [Int.toNat_natCast]; exact dnR_at hi2
      have hsu : selN ts done (i + 1) = bif !done i && (decide (selN ts done i < 0) || nmLt (gt7 ts i).nm (gt7 ts (selN ts done i).toNat).nm) then (i : Int) else selN ts done i := rfl
      cases hdn : done i
      · rw [hdn, Bool.not_false, Bool.true_and] at hsu
        rw [hdn] at d1 d1'
        rcases selN_ok (ts := ts) (done := done) i with ⟨hs, _⟩ | ⟨b, hs, hb, _, _⟩
        · rw [hs] at hsu ⊢
          have hneg : decide ((-1 : Int) < 0) = true := rfl
          rw [hneg, Bool.true_or, cond_true] at hsu
          repeat' first
           | refine v_seq ?_ | refine v_block ?_ | refine v_ret ?_ | refine v_skip ?_ | (refine v_exit ?_; repeat' first | refine xB_eq ?_ | refine xB_ne rfl ?_)
           | ((first | refine rgA fun K hK => ?_ | refine rgB rfl fun K hK => ?_ | refine rgC rfl fun K hK => ?_); simp only [go_sem,simprocAttr,hd2,n0,hneg,hls,d1,d1',hdnl,hset_at,hset_hset,q0,q1])
           | (simp (disch := first | omega | rfl | (simp only [lnn]; omega)) only [spl])
           | (refine hK _ ?_; clear hK K)
           | (refine gdB_intro (fun h => ?_) (fun h => ?_) <;> simp only [go_sem,simprocAttr,h,hd2,n0,hneg,hls,d1,d1',hdnl,hset_at,hset_hset,q0,q1] <;> (have h' := h; try simp only [bl] at h'))
           | (refine v_cond rfl (fun h => ?_) (fun h => ?_) <;> first | (exact Bool.noConfusion h) | (have h' := h; try simp only [bl] at h'))
           | (refine r_ret ?_; simp only [resL, resA, Tryz.f60, lk_cons', lk_nil', Nat.reduceBEq]; first | exact ⟨rfl, Sb.nil _, rfl⟩ | refine ⟨rfl, sbt ?_, rfl⟩ | refine ⟨rfl, Sb.of_eq ?_, rfl⟩)
           | (refine And.intro (by first | exact True.intro | omega | rfl | exact Nat.le_of_ble_eq_true rfl | (simp only [lnn]; omega) | exact List.forall_mem_nil _ | (refine List.forall_mem_cons.2 ⟨⟨_, rfl⟩, ?_⟩; repeat' first | exact List.forall_mem_nil _ | refine List.forall_mem_cons.2 ⟨⟨_, rfl⟩, ?_⟩)) ?_)
           | (simp only [go_sem,simprocAttr,hls,d1,d1',hdnl,hset_at,hset_hset,q0,q1])
           | fail
          all_goals try (exfalso; omega)
          all_goals try (exfalso; simp_all; done)
          refine ⟨i + 1, ?_, by omega, by omega⟩
          rw [hsu]
          exact ent_rows [(1, dnR done ts.length), (r, dcs (R n).reverse)] (by (repeat' first | exact trivial | refine ⟨?_, ?_⟩ | rfl | (refine congrArg (fun z => some (AV.v (Value.int .i64 z))) ?_; omega))) rfl ⟨⟨by simp [hset', hls, q0, q1], by (first | omega | (dsimp only; omega))⟩, ⟨by simp [hset', hls, q0, q1], by (first | omega | (dsimp only; omega))⟩, True.intro⟩ (Nat.le_refl _)
        · rw [hs] at hsu ⊢
          rw [decide_eq_false (show ¬((b : Int) < 0) by omega), Bool.false_or, Int.toNat_natCast] at hsu
          have t2 : (tcs ts)[((b : Nat) : Int).toNat * 3]? = some (.v (.string (gt7 ts b).nm)) := tcs_0 (by omega)
          have hq : Op.bytesLess (gt7 ts i).nm.toList (gt7 ts b).nm.toList = nmLt (gt7 ts i).nm (gt7 ts b).nm := rfl
          cases hlt : nmLt (gt7 ts i).nm (gt7 ts b).nm
          all_goals
            rw [hlt] at hq hsu
            repeat' first
             | refine v_seq ?_ | refine v_block ?_ | refine v_ret ?_ | refine v_skip ?_ | (refine v_exit ?_; repeat' first | refine xB_eq ?_ | refine xB_ne rfl ?_)
             | ((first | refine rgA fun K hK => ?_ | refine rgB rfl fun K hK => ?_ | refine rgC rfl fun K hK => ?_); simp only [go_sem,simprocAttr,hd2,n0,hls,d1,d1',t1,t2,hq,hL,hdnl,hset_at,hset_hset,q0,q1])
             | (simp (disch := first | omega | rfl | (simp only [lnn]; omega)) only [spl])
             | (refine hK _ ?_; clear hK K)
             | (refine gdB_intro (fun h => ?_) (fun h => ?_) <;> simp only [go_sem,simprocAttr,h,hd2,n0,hls,d1,d1',t1,t2,hq,hL,hdnl,hset_at,hset_hset,q0,q1] <;> (have h' := h; try simp only [bl] at h'))
             | (refine v_cond rfl (fun h => ?_) (fun h => ?_) <;> first | (exact Bool.noConfusion h) | (have h' := h; try simp only [bl] at h'))
             | (refine r_ret ?_; simp only [resL, resA, Tryz.f60, lk_cons', lk_nil', Nat.reduceBEq]; first | exact ⟨rfl, Sb.nil _, rfl⟩ | refine ⟨rfl, sbt ?_, rfl⟩ | refine ⟨rfl, Sb.of_eq ?_, rfl⟩)
             | (refine And.intro (by first | exact True.intro | omega | rfl | exact Nat.le_of_ble_eq_true rfl | (simp only [lnn]; omega) | exact List.forall_mem_nil _ | (refine List.forall_mem_cons.2 ⟨⟨_, rfl⟩, ?_⟩; repeat' first | exact List.forall_mem_nil _ | refine List.forall_mem_cons.2 ⟨⟨_, rfl⟩, ?_⟩)) ?_)
             | (simp only [go_sem,simprocAttr,hls,d1,d1',t1,t2,hq,hL,hdnl,hset_at,hset_hset,q0,q1])
             | fail
            all_goals try (exfalso; omega)
            refine ⟨i + 1, ?_, by omega, by omega⟩
            rw [hsu]
            exact ent_rows [(1, dnR done ts.length), (r, dcs (R n).reverse)] (by (repeat' first | exact trivial | refine ⟨?_, ?_⟩ | rfl | (refine congrArg (fun z => some (AV.v (Value.int .i64 z))) ?_; omega))) rfl ⟨⟨by simp [hset', hls, q0, q1], by (first | omega | (dsimp only; omega))⟩, ⟨by simp [hset', hls, q0, q1], by (first | omega | (dsimp only; omega))⟩, True.intro⟩ (Nat.le_refl _)
      · rw [hdn, Bool.not_true, Bool.false_and, cond_false] at hsu
        rw [hdn] at d1 d1'
        repeat' first
         | refine v_seq ?_ | refine v_block ?_ | refine v_ret ?_ | refine v_skip ?_ | (refine v_exit ?_; repeat' first | refine xB_eq ?_ | refine xB_ne rfl ?_)
         | ((first | refine rgA fun K hK => ?_ | refine rgB rfl fun K hK => ?_ | refine rgC rfl fun K hK => ?_); simp only [go_sem,simprocAttr,hd2,n0,hls,d1,d1',hdnl,hset_at,hset_hset,q0,q1])
         | (simp (disch := first | omega | rfl | (simp only [lnn]; omega)) only [spl])
         | (refine hK _ ?_; clear hK K)
         | (refine gdB_intro (fun h => ?_) (fun h => ?_) <;> simp only [go_sem,simprocAttr,h,hd2,n0,hls,d1,d1',hdnl,hset_at,hset_hset,q0,q1] <;> (have h' := h; try simp only [bl] at h'))
         | (refine v_cond rfl (fun h => ?_) (fun h => ?_) <;> first | (exact Bool.noConfusion h) | (have h' := h; try simp only [bl] at h'))
         | (refine r_ret ?_; simp only [resL, resA, Tryz.f60, lk_cons', lk_nil', Nat.reduceBEq]; first | exact ⟨rfl, Sb.nil _, rfl⟩ | refine ⟨rfl, sbt ?_, rfl⟩ | refine ⟨rfl, Sb.of_eq ?_, rfl⟩)
         | (refine And.intro (by first | exact True.intro | omega | rfl | exact Nat.le_of_ble_eq_true rfl | (simp only [lnn]; omega) | exact List.forall_mem_nil _ | (refine List.forall_mem_cons.2 ⟨⟨_, rfl⟩, ?_⟩; repeat' first | exact List.forall_mem_nil _ | refine List.forall_mem_cons.2 ⟨⟨_, rfl⟩, ?_⟩)) ?_)
         | (simp only [go_sem,simprocAttr,hls,d1,d1',hdnl,hset_at,hset_hset,q0,q1])
         | fail
        all_goals try (exfalso; omega)
        refine ⟨i + 1, ?_, by omega, by omega⟩
        rw [hsu]
        exact ent_rows [(1, dnR done ts.length), (r, dcs (R n).reverse)] (by (repeat' first | exact trivial | refine ⟨?_, ?_⟩ | rfl | (refine congrArg (fun z => some (AV.v (Value.int .i64 z))) ?_; omega))) rfl ⟨⟨by simp [hset', hls, q0, q1], by (first | omega | (dsimp only; omega))⟩, ⟨by simp [hset', hls, q0, q1], by (first | omega | (dsimp only; omega))⟩, True.intro⟩ (Nat.le_refl _)
    · obtain rfl : i = ts.length := by omega
      have hd2 : decide ((ts.length : Int) < ts.length) = false := decide_eq_false (by omega)
      obtain ⟨b, hs, hb, hbt, hdn1⟩ := sel_next hT hn2 hdo
      rw [hs]
      obtain ⟨t, ht⟩ : ∃ t, gt7 ts b = t := ⟨_, rfl⟩
      have hsp : splice (dnR done ts.length) ((b : Nat) : Int).toNat [.v (.bool true)] = dnR (fun j => if j = b then true else done j) ts.length := by rw [Int.toNat_natCast]; exact dnR_splice hb
      have g1 : List.take 3 (List.drop (((b : Nat) : Int).toNat * 3) (tcs ts)) = [.v (.string t.nm), iv t.lag, isl t.xs] := by rw [← ht]; exact tcs_at hb
      have e0 : splice [AV.v (.string ByteArray.empty), AV.v (.int .i64 0), AV.v (.slice none 0 0)] 0 [.v (.string t.nm), iv t.lag, isl t.xs] = [.v (.string t.nm), iv t.lag, isl t.xs] := splice_all rfl
      repeat' first
       | refine v_seq ?_ | refine v_block ?_ | refine v_ret ?_ | refine v_skip ?_ | (refine v_exit ?_; repeat' first | refine xB_eq ?_ | refine xB_ne rfl ?_)
       | ((first | refine rgA fun K hK => ?_ | refine rgB rfl fun K hK => ?_ | refine rgC rfl fun K hK => ?_); simp only [go_sem,simprocAttr,hd2,n0,hls,hdnl,hsp,g1,e0,hL,q0,q1,y0,y1,y2,y3,hset_at,hset_hset])
       | (simp (disch := first | omega | rfl | (simp only [lnn]; omega)) only [spl])
       | (refine hK _ ?_; clear hK K)
       | (refine gdB_intro (fun h => ?_) (fun h => ?_) <;> simp only [go_sem,simprocAttr,h,hd2,n0,hls,hdnl,hsp,g1,e0,hL,q0,q1,y0,y1,y2,y3,hset_at,hset_hset] <;> (have h' := h; try simp only [bl] at h'))
       | (refine v_cond rfl (fun h => ?_) (fun h => ?_) <;> first | (exact Bool.noConfusion h) | (have h' := h; try simp only [bl] at h'))
       | (refine r_ret ?_; simp only [resL, resA, Tryz.f60, lk_cons', lk_nil', Nat.reduceBEq]; first | exact ⟨rfl, Sb.nil _, rfl⟩ | refine ⟨rfl, sbt ?_, rfl⟩ | refine ⟨rfl, Sb.of_eq ?_, rfl⟩)
       | (refine And.intro (by first | exact True.intro | omega | rfl | exact Nat.le_of_ble_eq_true rfl | (simp only [lnn]; omega) | exact List.forall_mem_nil _ | (refine List.forall_mem_cons.2 ⟨⟨_, rfl⟩, ?_⟩; repeat' first | exact List.forall_mem_nil _ | refine List.forall_mem_cons.2 ⟨⟨_, rfl⟩, ?_⟩)) ?_)
       | (simp only [go_sem,simprocAttr,hls,hdnl,hsp,g1,e0,hL,q0,q1,y0,y1,y2,y3,hset_at,hset_hset])
       | fail
      have hnn : n < (byN ts).length := by omega
      have hRs : R (n + 1) = dmgTo t (meds ts N) limit (R n) N := by
        rw [hR, hR, List.take_succ_eq_append_getElem hnn, dmgR_snoc, ← hbt, ht]
      obtain ⟨D, hD⟩ : ∃ D : Nat → List Dg, ∀ p, D p = dmgTo t (meds ts N) limit (R n) p := ⟨_, fun _ => rfl⟩
      have hRn := hRl n (by omega)
      have hDl : ∀ p, p ≤ N → (D p).length ≤ 2000 := fun p hp => by
        rw [hD]
        have := dmgTo_len t (meds ts N) limit (R n) p
        omega
      have hlast0 : LastOk t.nm (-2) (R n) := by
        refine .inl ⟨rfl, fun d hd e => ?_⟩
        rw [hR] at hd
        obtain ⟨t', h1', h2'⟩ := dmgR_names _ _ _ _ d hd
        obtain ⟨i', hi', hti⟩ := List.mem_iff_getElem.1 h1'
        rw [List.length_take] at hi'
        rw [List.getElem_take] at hti
        have hu := List.pairwise_iff_getElem.1 (nmU_perm (byN_perm ts) hT.nmU) i' n (by omega) hnn (by omega)
        apply hu
        rw [hti, ← hbt, ht, h2', e]
      have hlag := hT.lag b hb
      have hlen := hT.len b hb
      have hsm := fun p => smp_bound hT hb p
      rw [ht] at hlag hlen hsm
      refine v_loop (T := Nat × Nat × Nat × Int) (fun x => ⟨[(0, tsl ts), (1, isl (meds ts N)), (2, iv limit), (8, .ls 1 0 1 ts.length), (9, iv n), (12, .lp Y 0), (13, iv x.2.2.2), (14, iv x.1), (7, .ls x.2.1 0 3 (D x.1).length)], hls [(1, dnR (fun j => if j = b then true else done j) ts.length), (Y, [AV.v (Value.string t.nm), iv t.lag, isl t.xs]), (x.2.1, dcs (D x.1).reverse)], x.2.2.1, (107, 0, 0)⟩) (fun x => x.1 ≤ N ∧ x.2.1 ≠ 1 ∧ x.2.1 ≠ Y ∧ x.2.1 < x.2.2.1 ∧ Y < x.2.2.1 ∧ LastOk t.nm x.2.2.2 (D x.1)) (fun x => N - x.1) (0, r, Y + 1, -2) ⟨by (first | omega | (dsimp only; omega)), by (first | omega | (dsimp only; omega)), by (first | omega | (dsimp only; omega)), by (first | omega | (dsimp only; omega)), by (first | omega | (dsimp only; omega)), by rw [hD]; exact hlast0⟩ ?_ ?_
      · have hD0 : D 0 = R n := by rw [hD]; rfl
        dsimp only
        rw [hD0]
        exact ent_rows [(1, dnR (fun j => if j = b then true else done j) ts.length), (Y, [AV.v (Value.string t.nm), iv t.lag, isl t.xs]), (r, dcs (R n).reverse)] (by (repeat' first | exact trivial | refine ⟨?_, ?_⟩ | rfl | (refine congrArg (fun z => some (AV.v (Value.int .i64 z))) ?_; omega))) rfl ⟨⟨by simp [hset', hls, q0, q1, y0, y1, y2, y3], by (first | omega | (dsimp only; omega))⟩, ⟨by simp [hset', hls, q0, q1, y0, y1, y2, y3, splice], by (first | omega | (dsimp only; omega))⟩, ⟨by simp [hset', hls, q0, q1, y0, y1, y2, y3], by (first | omega | (dsimp only; omega))⟩, True.intro⟩ (Nat.le_refl _)
      rintro ⟨p, z, Z, last⟩ ⟨hp2, hz1, hzY, hzZ, hYZ, hLO⟩
      dsimp only at hp2 hz1 hzY hzZ hYZ hLO ⊢
      have a0 : (z == 1) = false := beq_ne hz1
      have a1 : (1 == z) = false := beq_ne (Ne.symm hz1)
      have a2 : (z == Y) = false := beq_ne (by omega)
      have a3 : (Y == z) = false := beq_ne (by omega)
      have b0 : (Z == 1) = false := beq_ne (by omega)
      have b1 : (1 == Z) = false := beq_ne (by omega)
      have b2 : (Z == Y) = false := beq_ne (by omega)
      have b3 : (Y == Z) = false := beq_ne (by omega)
      have b4 : (Z == z) = false := beq_ne (by omega)
      have b5 : (z == Z) = false := beq_ne (by omega)
      have hDp := hDl p hp2
      by_cases hp3 : p < N
      · have hd3 : decide ((p : Int) < (meds ts N).length) = true := decide_eq_true (by omega)
        have kh := c_Has t (p : Nat) (by unfold Len; omega) (by omega) (by omega)
        have hDs : D (p + 1) = bif badAt t (meds ts N) limit p then stepD t.nm (p : Nat) (D p) else D p := by rw [hD, hD]; rfl
        have hbe : badAt t (meds ts N) limit p = (hasAt t (p : Nat) && !within (smp t (p : Nat) - gi (meds ts N) (p : Nat)) (0 - limit) limit) := by unfold badAt; rw [Int.zero_sub]
        have hml2 : (p : Int) < (meds ts N).length := by omega
        have hmb := medAt_bound hT (p : Nat)
        have hgm := gi_meds (ts := ts) (n := N) (p := p) hp3
        have hsb := hsm (p : Nat)
        cases hc : hasAt t (p : Nat)
        · rw [hc] at kh hbe
          rw [hbe, Bool.false_and, cond_false] at hDs
          repeat' first
           | refine v_seq ?_ | refine v_block ?_ | refine v_ret ?_ | refine v_skip ?_ | (refine v_exit ?_; repeat' first | refine xB_eq ?_ | refine xB_ne rfl ?_)
           | ((first | refine rgA fun K hK => ?_ | refine rgB rfl fun K hK => ?_ | refine rgC rfl fun K hK => ?_); simp only [go_sem,simprocAttr,hd3,n0,hls,hset_at,hset_hset,q0,q1,y0,y1,a0,a1,a2,a3,b0,b1,b2,b3,b4,b5])
           | (simp (disch := first | omega | rfl | (simp only [lnn]; omega)) only [spl])
           | (refine hK _ ?_; clear hK K)
           | (refine gdB_intro (fun h => ?_) (fun h => ?_) <;> simp only [go_sem,simprocAttr,h,hd3,n0,hls,hset_at,hset_hset,q0,q1,y0,y1,a0,a1,a2,a3,b0,b1,b2,b3,b4,b5] <;> (have h' := h; try simp only [bl] at h'))
           | (refine v_cond rfl (fun h => ?_) (fun h => ?_) <;> first | (exact Bool.noConfusion h) | (have h' := h; try simp only [bl] at h'))
           | (refine r_ret ?_; simp only [resL, resA, Tryz.f60, lk_cons', lk_nil', Nat.reduceBEq]; first | exact ⟨rfl, Sb.nil _, rfl⟩ | refine ⟨rfl, sbt ?_, rfl⟩ | refine ⟨rfl, Sb.of_eq ?_, rfl⟩)
           | (refine And.intro (by first | exact True.intro | omega | rfl | exact Nat.le_of_ble_eq_true rfl | (simp only [lnn]; omega) | exact List.forall_mem_nil _ | (refine List.forall_mem_cons.2 ⟨⟨_, rfl⟩, ?_⟩; repeat' first | exact List.forall_mem_nil _ | refine List.forall_mem_cons.2 ⟨⟨_, rfl⟩, ?_⟩)) ?_)
           | ((first | refine call_pure' (kh) rfl ?_); simp only [go_sem,simprocAttr,hd3,n0,hls,hset_at,hset_hset,q0,q1,y0,y1,a0,a1,a2,a3,b0,b1,b2,b3,b4,b5])
           | (simp only [go_sem,simprocAttr,hls,hset_at,hset_hset,q0,q1,y0,y1,a0,a1,a2,a3,b0,b1,b2,b3,b4,b5])
           | fail
          all_goals try (exfalso; omega)
          refine ⟨(p + 1, z, Z, last), ?_, ⟨by (first | omega | (dsimp only; omega)), by (first | omega | (dsimp only; omega)), by (first | omega | (dsimp only; omega)), by (first | omega | (dsimp only; omega)), by (first | omega | (dsimp only; omega)), by dsimp only; rw [hDs]; exact hLO⟩, by (first | omega | (dsimp only; omega))⟩
          dsimp only
          rw [hDs]
          exact ent_rows [(1, dnR (fun j => if j = b then true else done j) ts.length), (Y, [AV.v (Value.string t.nm), iv t.lag, isl t.xs]), (z, dcs (D p).reverse)] (by (repeat' first | exact trivial | refine ⟨?_, ?_⟩ | rfl | (refine congrArg (fun z => some (AV.v (Value.int .i64 z))) ?_; omega))) rfl ⟨⟨by simp [hset', hls, y0, y1, a0, a1, a2, a3, b0, b1, b2, b3], by (first | omega | (dsimp only; omega))⟩, ⟨by simp [hset', hls, y0, y1, a0, a1, a2, a3, b0, b1, b2, b3, splice], by (first | omega | (dsimp only; omega))⟩, ⟨by simp [hset', hls, y0, y1, a0, a1, a2, a3, b0, b1, b2, b3], by (first | omega | (dsimp only; omega))⟩, True.intro⟩ (Nat.le_refl _)
        · have ka := c_at t (p : Nat) (by unfold Len; omega) (by omega) (by omega) hc
          rw [hc] at kh hbe
          rw [Bool.true_and, hgm] at hbe
          rw [hbe] at hDs
          cases hW : within (smp t (p : Nat) - medAt ts (p : Nat)) (0 - limit) limit
          rotate_left
          · rw [hW, Bool.not_true, cond_false] at hDs
            repeat' first
             | refine v_seq ?_ | refine v_block ?_ | refine v_ret ?_ | refine v_skip ?_ | (refine v_exit ?_; repeat' first | refine xB_eq ?_ | refine xB_ne rfl ?_)
             | ((first | refine rgA fun K hK => ?_ | refine rgB rfl fun K hK => ?_ | refine rgC rfl fun K hK => ?_); simp only [go_sem,simprocAttr,hd3,n0,hls,hset_at,hset_hset,q0,q1,y0,y1,a0,a1,a2,a3,b0,b1,b2,b3,b4,b5,hgm,hW])
             | (simp (disch := first | omega | rfl | (simp only [lnn]; omega)) only [spl])
             | (refine hK _ ?_; clear hK K)
             | (refine gdB_intro (fun h => ?_) (fun h => ?_) <;> simp only [go_sem,simprocAttr,h,hd3,n0,hls,hset_at,hset_hset,q0,q1,y0,y1,a0,a1,a2,a3,b0,b1,b2,b3,b4,b5,hgm,hW] <;> (have h' := h; try simp only [bl] at h'))
             | (refine v_cond rfl (fun h => ?_) (fun h => ?_) <;> first | (exact Bool.noConfusion h) | (have h' := h; try simp only [bl] at h'))
             | (refine r_ret ?_; simp only [resL, resA, Tryz.f60, lk_cons', lk_nil', Nat.reduceBEq]; first | exact ⟨rfl, Sb.nil _, rfl⟩ | refine ⟨rfl, sbt ?_, rfl⟩ | refine ⟨rfl, Sb.of_eq ?_, rfl⟩)
             | (refine And.intro (by first | exact True.intro | omega | rfl | exact Nat.le_of_ble_eq_true rfl | (simp only [lnn]; omega) | exact List.forall_mem_nil _ | (refine List.forall_mem_cons.2 ⟨⟨_, rfl⟩, ?_⟩; repeat' first | exact List.forall_mem_nil _ | refine List.forall_mem_cons.2 ⟨⟨_, rfl⟩, ?_⟩)) ?_)
             | ((first | refine call_pure' (kh) rfl ?_ | refine call_pure' (ka) rfl ?_ | refine call_pure' (c_Within _ _ _) rfl ?_); simp only [go_sem,simprocAttr,hd3,n0,hls,hset_at,hset_hset,q0,q1,y0,y1,a0,a1,a2,a3,b0,b1,b2,b3,b4,b5,hgm,hW])
             | (simp only [go_sem,simprocAttr,hls,hset_at,hset_hset,q0,q1,y0,y1,a0,a1,a2,a3,b0,b1,b2,b3,b4,b5,hgm,hW])
             | fail
            all_goals try (exfalso; omega)
            refine ⟨(p + 1, z, Z, last), ?_, ⟨by (first | omega | (dsimp only; omega)), by (first | omega | (dsimp only; omega)), by (first | omega | (dsimp only; omega)), by (first | omega | (dsimp only; omega)), by (first | omega | (dsimp only; omega)), by dsimp only; rw [hDs]; exact hLO⟩, by (first | omega | (dsimp only; omega))⟩
            dsimp only
            rw [hDs]
            exact ent_rows [(1, dnR (fun j => if j = b then true else done j) ts.length), (Y, [AV.v (Value.string t.nm), iv t.lag, isl t.xs]), (z, dcs (D p).reverse)] (by (repeat' first | exact trivial | refine ⟨?_, ?_⟩ | rfl | (refine congrArg (fun z => some (AV.v (Value.int .i64 z))) ?_; omega))) rfl ⟨⟨by simp [hset', hls, y0, y1, a0, a1, a2, a3, b0, b1, b2, b3], by (first | omega | (dsimp only; omega))⟩, ⟨by simp [hset', hls, y0, y1, a0, a1, a2, a3, b0, b1, b2, b3, splice], by (first | omega | (dsimp only; omega))⟩, ⟨by simp [hset', hls, y0, y1, a0, a1, a2, a3, b0, b1, b2, b3], by (first | omega | (dsimp only; omega))⟩, True.intro⟩ (Nat.le_refl _)
          · rw [hW, Bool.not_false, cond_true] at hDs
            have hLN := last_next (p := p) hLO
            rw [← hDs] at hLN
            rcases last_step (p := p) hLO with ⟨hle, d, R', hDD, hst1⟩ | ⟨hle, hst1⟩
            · rw [hst1] at hDs
              have hlb : (last == (p : Int) - 1) = true := by simpa using hle
              have hrev : dcs (D p).reverse = dcs R'.reverse ++ [AV.v (Value.string d.nm), iv d.lo, iv d.hi] := by rw [hDD]; simp [dcs, Dg.cells]
              have hXl : (dcs R'.reverse).length = R'.length * 3 := by rw [dcs_len, List.length_reverse]
              have hrev1 : dcs (⟨d.nm, d.lo, (p : Nat)⟩ :: R').reverse = dcs R'.reverse ++ [AV.v (Value.string d.nm), iv d.lo, iv (p : Nat)] := by simp [dcs, Dg.cells]
              have hDlen : (D p).length = R'.length + 1 := by rw [hDD]; rfl
              rw [hrev, hDlen]
              rw [hDlen] at hDp
              obtain ⟨m, hm⟩ : ∃ m, R'.length = m := ⟨_, rfl⟩
              rw [hm] at hXl hDp ⊢
              generalize dcs R'.reverse = X at *
              have hk : (((m + 1 : Nat) : Int) - 1).toNat = m := by omega
              have sp : splice (X ++ [AV.v (Value.string d.nm), iv d.lo, iv d.hi]) ((((m + 1 : Nat) : Int) - 1).toNat * 3 + 2) [iv (p : Nat)] = X ++ [AV.v (Value.string d.nm), iv d.lo, iv (p : Nat)] := by
                rw [hk]
                unfold splice
                rw [← hXl, List.take_append, List.take_of_length_le (by omega), List.drop_append, List.drop_of_length_le (by simp; omega)]
                simp
                try omega
              have sp' : splice (X ++ [AV.v (Value.string d.nm), iv d.lo, iv d.hi]) ((((m + 1 : Nat) : Int) - 1).toNat * 3 + 1 + 1) [iv (p : Nat)] = X ++ [AV.v (Value.string d.nm), iv d.lo, iv (p : Nat)] := sp
              have hXlen : (X ++ [AV.v (Value.string d.nm), iv d.lo, iv d.hi]).length = (m + 1) * 3 := by rw [List.length_append, hXl]; simp; omega
              generalize hE : X ++ [AV.v (Value.string d.nm), iv d.lo, iv d.hi] = E at *
              repeat' first
               | refine v_seq ?_ | refine v_block ?_ | refine v_ret ?_ | refine v_skip ?_ | (refine v_exit ?_; repeat' first | refine xB_eq ?_ | refine xB_ne rfl ?_)
               | ((first | refine rgA fun K hK => ?_ | refine rgB rfl fun K hK => ?_ | refine rgC rfl fun K hK => ?_); simp only [go_sem,simprocAttr,hd3,n0,hls,hset_at,hset_hset,q0,q1,y0,y1,a0,a1,a2,a3,b0,b1,b2,b3,b4,b5,hgm,hW,hlb,sp,sp',hXlen])
               | (simp (disch := first | omega | rfl | (simp only [lnn]; omega)) only [spl])
               | (refine hK _ ?_; clear hK K)
               | (refine gdB_intro (fun h => ?_) (fun h => ?_) <;> simp only [go_sem,simprocAttr,h,hd3,n0,hls,hset_at,hset_hset,q0,q1,y0,y1,a0,a1,a2,a3,b0,b1,b2,b3,b4,b5,hgm,hW,hlb,sp,sp',hXlen] <;> (have h' := h; try simp only [bl] at h'))
               | (refine v_cond rfl (fun h => ?_) (fun h => ?_) <;> first | (exact Bool.noConfusion h) | (have h' := h; try simp only [bl] at h'))
               | (refine r_ret ?_; simp only [resL, resA, Tryz.f60, lk_cons', lk_nil', Nat.reduceBEq]; first | exact ⟨rfl, Sb.nil _, rfl⟩ | refine ⟨rfl, sbt ?_, rfl⟩ | refine ⟨rfl, Sb.of_eq ?_, rfl⟩)
               | (refine And.intro (by first | exact True.intro | omega | rfl | exact Nat.le_of_ble_eq_true rfl | (simp only [lnn]; omega) | exact List.forall_mem_nil _ | (refine List.forall_mem_cons.2 ⟨⟨_, rfl⟩, ?_⟩; repeat' first | exact List.forall_mem_nil _ | refine List.forall_mem_cons.2 ⟨⟨_, rfl⟩, ?_⟩)) ?_)
               | ((first | refine call_pure' (kh) rfl ?_ | refine call_pure' (ka) rfl ?_ | refine call_pure' (c_Within _ _ _) rfl ?_); simp only [go_sem,simprocAttr,hd3,n0,hls,hset_at,hset_hset,q0,q1,y0,y1,a0,a1,a2,a3,b0,b1,b2,b3,b4,b5,hgm,hW,hlb,sp,sp',hXlen])
               | (simp only [go_sem,simprocAttr,hls,hset_at,hset_hset,q0,q1,y0,y1,a0,a1,a2,a3,b0,b1,b2,b3,b4,b5,hgm,hW,hlb,sp,sp',hXlen])
               | fail
              all_goals try (exfalso; omega)
              refine ⟨(p + 1, z, Z, (p : Int)), ?_, ⟨by (first | omega | (dsimp only; omega)), by (first | omega | (dsimp only; omega)), by (first | omega | (dsimp only; omega)), by (first | omega | (dsimp only; omega)), by (first | omega | (dsimp only; omega)), hLN⟩, by (first | omega | (dsimp only; omega))⟩
              dsimp only
              rw [hDs, hrev1, List.length_cons, hm]
              exact ent_rows [(1, dnR (fun j => if j = b then true else done j) ts.length), (Y, [AV.v (Value.string t.nm), iv t.lag, isl t.xs]), (z, X ++ [AV.v (Value.string d.nm), iv d.lo, iv p])] (by (repeat' first | exact trivial | refine ⟨?_, ?_⟩ | rfl | (refine congrArg (fun z => some (AV.v (Value.int .i64 z))) ?_; omega))) rfl ⟨⟨by simp [hset', hls, y0, y1, a0, a1, a2, a3, b0, b1, b2, b3], by (first | omega | (dsimp only; omega))⟩, ⟨by simp [hset', hls, y0, y1, a0, a1, a2, a3, b0, b1, b2, b3, splice], by (first | omega | (dsimp only; omega))⟩, ⟨by simp [hset', hls, y0, y1, a0, a1, a2, a3, b0, b1, b2, b3, sp, sp'], by (first | omega | (dsimp only; omega))⟩, True.intro⟩ (Nat.le_refl _)
            · rw [hst1] at hDs
              have hlb : (last == (p : Int) - 1) = false := by simpa using hle
              have hrev2 : dcs (⟨t.nm, (p : Nat), (p : Nat)⟩ :: D p).reverse = dcs (D p).reverse ++ [AV.v (Value.string t.nm), iv (p : Nat), iv (p : Nat)] := by simp [dcs, Dg.cells]
              have hXlen : (dcs (D p).reverse).length = (D p).length * 3 := by rw [dcs_len, List.length_reverse]
              have hone := dcs_one (D p).reverse
              have htk : List.take ((D p).length * 3) (dcs (D p).reverse) = dcs (D p).reverse := List.take_of_length_le (by omega)
              generalize dcs (D p).reverse = E at *
              repeat' first
               | refine v_seq ?_ | refine v_block ?_ | refine v_ret ?_ | refine v_skip ?_ | (refine v_exit ?_; repeat' first | refine xB_eq ?_ | refine xB_ne rfl ?_)
               | ((first | refine rgA fun K hK => ?_ | refine rgB rfl fun K hK => ?_ | refine rgC rfl fun K hK => ?_); simp only [go_sem,simprocAttr,hd3,n0,hls,hset_at,hset_hset,q0,q1,y0,y1,a0,a1,a2,a3,b0,b1,b2,b3,b4,b5,hgm,hW,hlb,hXlen,hone,htk])
               | (simp (disch := first | omega | rfl | (simp only [lnn]; omega)) only [spl])
               | (refine hK _ ?_; clear hK K)
               | (refine gdB_intro (fun h => ?_) (fun h => ?_) <;> simp only [go_sem,simprocAttr,h,hd3,n0,hls,hset_at,hset_hset,q0,q1,y0,y1,a0,a1,a2,a3,b0,b1,b2,b3,b4,b5,hgm,hW,hlb,hXlen,hone,htk] <;> (have h' := h; try simp only [bl] at h'))
               | (refine v_cond rfl (fun h => ?_) (fun h => ?_) <;> first | (exact Bool.noConfusion h) | (have h' := h; try simp only [bl] at h'))
               | (refine r_ret ?_; simp only [resL, resA, Tryz.f60, lk_cons', lk_nil', Nat.reduceBEq]; first | exact ⟨rfl, Sb.nil _, rfl⟩ | refine ⟨rfl, sbt ?_, rfl⟩ | refine ⟨rfl, Sb.of_eq ?_, rfl⟩)
               | (refine And.intro (by first | exact True.intro | omega | rfl | exact Nat.le_of_ble_eq_true rfl | (simp only [lnn]; omega) | exact List.forall_mem_nil _ | (refine List.forall_mem_cons.2 ⟨⟨_, rfl⟩, ?_⟩; repeat' first | exact List.forall_mem_nil _ | refine List.forall_mem_cons.2 ⟨⟨_, rfl⟩, ?_⟩)) ?_)
               | ((first | refine call_pure' (kh) rfl ?_ | refine call_pure' (ka) rfl ?_ | refine call_pure' (c_Within _ _ _) rfl ?_); simp only [go_sem,simprocAttr,hd3,n0,hls,hset_at,hset_hset,q0,q1,y0,y1,a0,a1,a2,a3,b0,b1,b2,b3,b4,b5,hgm,hW,hlb,hXlen,hone,htk])
               | (simp only [go_sem,simprocAttr,hls,hset_at,hset_hset,q0,q1,y0,y1,a0,a1,a2,a3,b0,b1,b2,b3,b4,b5,hgm,hW,hlb,hXlen,hone,htk])
               | (simp only [htk])
               | fail
              all_goals try (exfalso; omega)
              refine ⟨(p + 1, Z, Z + 1, (p : Int)), ?_, ⟨by (first | omega | (dsimp only; omega)), by (first | omega | (dsimp only; omega)), by (first | omega | (dsimp only; omega)), by (first | omega | (dsimp only; omega)), by (first | omega | (dsimp only; omega)), hLN⟩, by (first | omega | (dsimp only; omega))⟩
              dsimp only
              rw [hDs, hrev2, List.length_cons]
              exact ent_rows [(1, dnR (fun j => if j = b then true else done j) ts.length), (Y, [AV.v (Value.string t.nm), iv t.lag, isl t.xs]), (Z, E ++ [AV.v (Value.string t.nm), iv p, iv p])] (by (repeat' first | exact trivial | refine ⟨?_, ?_⟩ | rfl | (refine congrArg (fun z => some (AV.v (Value.int .i64 z))) ?_; omega))) rfl ⟨⟨by simp [hset', hls, y0, y1, a0, a1, a2, a3, b0, b1, b2, b3], by (first | omega | (dsimp only; omega))⟩, ⟨by simp [hset', hls, y0, y1, a0, a1, a2, a3, b0, b1, b2, b3, splice], by (first | omega | (dsimp only; omega))⟩, ⟨by simp [hset', hls, y0, y1, a0, a1, a2, a3, b0, b1, b2, b3, htk, splice], by (first | omega | (dsimp only; omega))⟩, True.intro⟩ (Nat.le_refl _)
      · obtain rfl : p = N := by omega
        have hd3 : decide ((p : Int) < (meds ts p).length) = false := decide_eq_false (by omega)
        repeat' first
         | refine v_seq ?_ | refine v_block ?_ | refine v_ret ?_ | refine v_skip ?_ | (refine v_exit ?_; repeat' first | refine xB_eq ?_ | refine xB_ne rfl ?_)
         | ((first | refine rgA fun K hK => ?_ | refine rgB rfl fun K hK => ?_ | refine rgC rfl fun K hK => ?_); simp only [go_sem,simprocAttr,hd3,hls])
         | (simp (disch := first | omega | rfl | (simp only [lnn]; omega)) only [spl])
         | (refine hK _ ?_; clear hK K)
         | (refine gdB_intro (fun h => ?_) (fun h => ?_) <;> simp only [go_sem,simprocAttr,h,hd3,hls] <;> (have h' := h; try simp only [bl] at h'))
         | (refine v_cond rfl (fun h => ?_) (fun h => ?_) <;> first | (exact Bool.noConfusion h) | (have h' := h; try simp only [bl] at h'))
         | (refine r_ret ?_; simp only [resL, resA, Tryz.f60, lk_cons', lk_nil', Nat.reduceBEq]; first | exact ⟨rfl, Sb.nil _, rfl⟩ | refine ⟨rfl, sbt ?_, rfl⟩ | refine ⟨rfl, Sb.of_eq ?_, rfl⟩)
         | (refine And.intro (by first | exact True.intro | omega | rfl | exact Nat.le_of_ble_eq_true rfl | (simp only [lnn]; omega) | exact List.forall_mem_nil _ | (refine List.forall_mem_cons.2 ⟨⟨_, rfl⟩, ?_⟩; repeat' first | exact List.forall_mem_nil _ | refine List.forall_mem_cons.2 ⟨⟨_, rfl⟩, ?_⟩)) ?_)
         | fail
        refine ⟨(n + 1, z, Z, fun j => if j = b then true else done j), ?_, ⟨by (first | omega | (dsimp only; omega)), by (first | omega | (dsimp only; omega)), by (first | omega | (dsimp only; omega)), by (first | omega | (dsimp only; omega)), hdn1⟩, by (first | omega | (dsimp only; omega))⟩
        dsimp only
        rw [hRs, ← hD]
        exact ent_rows [(1, dnR (fun j => if j = b then true else done j) ts.length), (z, dcs (D p).reverse)] (by (repeat' first | exact trivial | refine ⟨?_, ?_⟩ | rfl | (refine congrArg (fun z => some (AV.v (Value.int .i64 z))) ?_; omega))) rfl ⟨⟨by simp [hset', hls, y0, y1, a0, a1, a2, a3], by (first | omega | (dsimp only; omega))⟩, ⟨by simp [hset', hls, y0, y1, a0, a1, a2, a3], by (first | omega | (dsimp only; omega))⟩, True.intro⟩ (Nat.le_refl _)
  · obtain rfl : n = ts.length := by omega
    have hd : decide ((ts.length : Int) < ts.length) = false := decide_eq_false (by omega)
    have hRe : R ts.length = dmgR (meds ts N) limit N (byN ts) := by rw [hR, List.take_of_length_le (by omega)]
    have hlen : (R ts.length).length = (dmgs ts limit N).length := by unfold dmgs; rw [hRe, List.length_reverse]
    have hrow : dcs (R ts.length).reverse = dcs (dmgs ts limit N) := by unfold dmgs; rw [hRe]
    rw [hlen, hrow]
    have hdl := dcs_len (dmgs ts limit N)
    repeat' first
     | refine v_seq ?_ | refine v_block ?_ | refine v_ret ?_ | refine v_skip ?_ | (refine v_exit ?_; repeat' first | refine xB_eq ?_ | refine xB_ne rfl ?_)
     | ((first | refine rgA fun K hK => ?_ | refine rgB rfl fun K hK => ?_ | refine rgC rfl fun K hK => ?_); simp only [go_sem,simprocAttr,hd,hls])
     | (simp (disch := first | omega | rfl | (simp only [lnn]; omega)) only [spl])
     | (refine hK _ ?_; clear hK K)
     | (refine gdB_intro (fun h => ?_) (fun h => ?_) <;> simp only [go_sem,simprocAttr,h,hd,hls] <;> (have h' := h; try simp only [bl] at h'))
     | (refine v_cond rfl (fun h => ?_) (fun h => ?_) <;> first | (exact Bool.noConfusion h) | (have h' := h; try simp only [bl] at h'))
     | (refine r_ret ?_; simp only [resL, resA, Tryz.f60, lk_cons', lk_nil', Nat.reduceBEq]; first | exact ⟨rfl, Sb.nil _, rfl⟩ | refine ⟨rfl, sbt ?_, rfl⟩ | refine ⟨rfl, Sb.of_eq ?_, rfl⟩)
     | (refine And.intro (by first | exact True.intro | omega | rfl | exact Nat.le_of_ble_eq_true rfl | (simp only [lnn]; omega) | exact List.forall_mem_nil _ | (refine List.forall_mem_cons.2 ⟨⟨_, rfl⟩, ?_⟩; repeat' first | exact List.forall_mem_nil _ | refine List.forall_mem_cons.2 ⟨⟨_, rfl⟩, ?_⟩)) ?_)
     | fail
    refine r_freeze r (c := dcs (dmgs ts limit N)) (by simp [hset', q0, q1]) (dcs_plain _) (r_ret ?_)
    have hle : 0 + (dmgs ts limit N).length * 3 ≤ (dcs (dmgs ts limit N)).length := by rw [hdl]; omega
    have htk1 : List.take ((dmgs ts limit N).length * 3) (List.drop 0 (dcs (dmgs ts limit N))) = dcs (dmgs ts limit N) := List.take_of_length_le (by rw [List.drop_zero, hdl]; exact Nat.le_refl _)
    simp only [resL, resA, Tryz.f60, fzF, lk_cons', lk_nil', Nat.reduceBEq, AV.fz, beq_self_eq_true, cond_true, if_pos hle, htk1]
    exact ⟨by simp [plainL, AV.plain, dcs_plain], Sb.refl _, by simp [plainL, AV.plain, dcs_plain]⟩
end Go.Proofs.YtabmhfmglhjmjaaGreatDoor
set_option maxRecDepth 100000
set_option maxHeartbeats 4000000
set_option linter.unusedSimpArgs false
set_option linter.unusedVariables false
set_option linter.unusedSectionVars false
namespace Go.Proofs.YtabmhfmglhjmjaaGreatDoor
open Go.Ab Go.RowKit
theorem dmgs_len (ts : List Tf) (limit : Int) (n : Nat) (h6 : ts.length ≤ 6) (hn : n ≤ 200) : (dmgs ts limit n).length ≤ 1200 := by
  unfold dmgs
  rw [List.length_reverse]
  have h1 := dmgR_len (meds ts n) limit n (byN ts)
  rw [byN_len] at h1
  have h2 : ts.length * n ≤ 6 * 200 := Nat.mul_le_mul h6 hn
  omega
theorem s_JoinTransfers (ts : List Tf) (n limit : Int) : Pure Tryz.prog 9 [tsl ts, iv n, iv limit] (AV.v (.bool true)) := by
  have kf := c_few ts
  cases hF : fewB ts
  · rw [hF] at kf
    refine p_intro evOk [] Tryz.func9 rfl Tryz.call9 ?_
    repeat' first
     | refine v_seq ?_ | refine v_block ?_ | refine v_ret ?_ | refine v_skip ?_ | (refine v_exit ?_; repeat' first | refine xB_eq ?_ | refine xB_ne rfl ?_)
     | ((first | refine rgA fun K hK => ?_ | refine rgB rfl fun K hK => ?_ | refine rgC rfl fun K hK => ?_); simp only [go_sem,simprocAttr])
     | (simp (disch := first | omega | rfl | (simp only [lnn]; omega)) only [spl])
     | (refine hK _ ?_; clear hK K)
     | (refine gdB_intro (fun h => ?_) (fun h => ?_) <;> simp only [go_sem,simprocAttr,h] <;> (have h' := h; try simp only [bl] at h'))
     | (refine v_cond rfl (fun h => ?_) (fun h => ?_) <;> first | (exact Bool.noConfusion h) | (have h' := h; try simp only [bl] at h'))
     | (refine r_ret ?_; simp only [resL, resA, Tryz.f9, lk_cons', lk_nil', Nat.reduceBEq]; first | exact ⟨rfl, Sb.nil _, rfl⟩ | refine ⟨rfl, sbt ?_, rfl⟩ | refine ⟨rfl, Sb.of_eq ?_, rfl⟩)
     | (refine And.intro (by first | exact True.intro | omega | rfl | exact Nat.le_of_ble_eq_true rfl | (simp only [lnn]; omega) | exact List.forall_mem_nil _ | (refine List.forall_mem_cons.2 ⟨⟨_, rfl⟩, ?_⟩; repeat' first | exact List.forall_mem_nil _ | refine List.forall_mem_cons.2 ⟨⟨_, rfl⟩, ?_⟩)) ?_)
     | ((first | refine call_pure' (c_awake) rfl ?_ | refine call_pure' (kf) rfl ?_); simp only [go_sem,simprocAttr])
     | fail
    all_goals rfl
  rw [hF] at kf
  cases hW : within n 31 200
  rotate_left
  · refine p_intro evOk [] Tryz.func9 rfl Tryz.call9 ?_
    repeat' first
     | refine v_seq ?_ | refine v_block ?_ | refine v_ret ?_ | refine v_skip ?_ | (refine v_exit ?_; repeat' first | refine xB_eq ?_ | refine xB_ne rfl ?_)
     | ((first | refine rgA fun K hK => ?_ | refine rgB rfl fun K hK => ?_ | refine rgC rfl fun K hK => ?_); simp only [go_sem,simprocAttr,hW])
     | (simp (disch := first | omega | rfl | (simp only [lnn]; omega)) only [spl])
     | (refine hK _ ?_; clear hK K)
     | (refine gdB_intro (fun h => ?_) (fun h => ?_) <;> simp only [go_sem,simprocAttr,h,hW] <;> (have h' := h; try simp only [bl] at h'))
     | (refine v_cond rfl (fun h => ?_) (fun h => ?_) <;> first | (exact Bool.noConfusion h) | (have h' := h; try simp only [bl] at h'))
     | (refine r_ret ?_; simp only [resL, resA, Tryz.f9, lk_cons', lk_nil', Nat.reduceBEq]; first | exact ⟨rfl, Sb.nil _, rfl⟩ | refine ⟨rfl, sbt ?_, rfl⟩ | refine ⟨rfl, Sb.of_eq ?_, rfl⟩)
     | (refine And.intro (by first | exact True.intro | omega | rfl | exact Nat.le_of_ble_eq_true rfl | (simp only [lnn]; omega) | exact List.forall_mem_nil _ | (refine List.forall_mem_cons.2 ⟨⟨_, rfl⟩, ?_⟩; repeat' first | exact List.forall_mem_nil _ | refine List.forall_mem_cons.2 ⟨⟨_, rfl⟩, ?_⟩)) ?_)
     | ((first | refine call_pure' (c_awake) rfl ?_ | refine call_pure' (kf) rfl ?_ | refine call_pure' (c_Within _ _ _) rfl ?_); simp only [go_sem,simprocAttr,hW])
     | fail
    all_goals rfl
  obtain ⟨hl8, hsz⟩ := fewB_len hF
  have hl : Len ts.length := by unfold Len; omega
  have hn : ∀ i, i < ts.length → Len (gt7 ts i).nm.size ∧ Len (gt7 ts i).xs.length := fun i hi => by
    have := hsz i hi
    unfold Len
    omega
  have kcp := c_CopyTransfers ts hl fun i hi => (hn i hi).2
  have kck := c_CheckTransfers ts hl hn
  have krk := c_refCheckTransfers ts hl hn
  have kmd := c_Median ts n hl hn
  have kle := c_LengthErr n
  have q1 : ((ckT ts).2 != (ckT ts).2) = false := by simp
  have q2 : ((ckT ts).1 != (ckT ts).1) = false := by simp
  have hfin : ∀ E : Int, E ≠ 0 → medE ts n = E → dmE ts n limit = E → (((ckT ts).2 = E) ∨ ((ckT ts).2 = 0 ∧ lengthE n = E)) → Pure Tryz.prog 9 [tsl ts, iv n, iv limit] (AV.v (.bool true)) := by
    intro E hE0 hmE hdE hcase
    have hmL : medL ts n = [] := by unfold medL; rw [hmE, show (E == 0) = false by simpa using hE0]; rfl
    have kdm := c_DamagedErr ts n limit hl hn (by rw [hdE]; exact hE0)
    rw [hmE, hmL] at kmd
    rw [hdE] at kdm
    have hEb : (E != 0) = true := by simpa using hE0
    have hEc : (E == 0) = false := by simpa using hE0
    rcases hcase with hc | ⟨hc, hle⟩
    · generalize ckT ts = p at *
      obtain ⟨p1, p2⟩ := p
      have hc' : p2 = E := hc
      subst hc'
      refine p_intro evOk [] Tryz.func9 rfl Tryz.call9 ?_
      repeat' first
       | refine v_seq ?_ | refine v_block ?_ | refine v_ret ?_ | refine v_skip ?_ | (refine v_exit ?_; repeat' first | refine xB_eq ?_ | refine xB_ne rfl ?_)
       | ((first | refine rgA fun K hK => ?_ | refine rgB rfl fun K hK => ?_ | refine rgC rfl fun K hK => ?_); simp only [go_sem,simprocAttr,hW,hEb,hEc,q1,q2])
       | (simp (disch := first | omega | rfl | (simp only [lnn]; omega)) only [spl])
       | (refine hK _ ?_; clear hK K)
       | (refine gdB_intro (fun h => ?_) (fun h => ?_) <;> simp only [go_sem,simprocAttr,h,hW,hEb,hEc,q1,q2] <;> (have h' := h; try simp only [bl] at h'))
       | (refine v_cond rfl (fun h => ?_) (fun h => ?_) <;> first | (exact Bool.noConfusion h) | (have h' := h; try simp only [bl] at h'))
       | (refine r_ret ?_; simp only [resL, resA, Tryz.f9, lk_cons', lk_nil', Nat.reduceBEq]; first | exact ⟨rfl, Sb.nil _, rfl⟩ | refine ⟨rfl, sbt ?_, rfl⟩ | refine ⟨rfl, Sb.of_eq ?_, rfl⟩)
       | (refine And.intro (by first | exact True.intro | omega | rfl | exact Nat.le_of_ble_eq_true rfl | (simp only [lnn]; omega) | exact List.forall_mem_nil _ | (refine List.forall_mem_cons.2 ⟨⟨_, rfl⟩, ?_⟩; repeat' first | exact List.forall_mem_nil _ | refine List.forall_mem_cons.2 ⟨⟨_, rfl⟩, ?_⟩)) ?_)
       | ((first | refine call_pure' (c_awake) rfl ?_ | refine call_pure' (kf) rfl ?_ | refine call_pure' (c_Within _ _ _) rfl ?_ | refine call_pure' (kcp) rfl ?_ | refine call_pure' (kck) rfl ?_ | refine call_pure' (kmd) rfl ?_ | refine call_pure' (kdm) rfl ?_ | refine call_pure' (krk) rfl ?_); simp only [go_sem,simprocAttr,hW,hEb,hEc,q1,q2])
       | fail
      all_goals (first | rfl | exact absurd rfl (by assumption) | (exfalso; simp_all; done))
    · rw [hle] at kle
      generalize ckT ts = p at *
      obtain ⟨p1, p2⟩ := p
      have hc' : p2 = 0 := hc
      subst hc'
      refine p_intro evOk [] Tryz.func9 rfl Tryz.call9 ?_
      repeat' first
       | refine v_seq ?_ | refine v_block ?_ | refine v_ret ?_ | refine v_skip ?_ | (refine v_exit ?_; repeat' first | refine xB_eq ?_ | refine xB_ne rfl ?_)
       | ((first | refine rgA fun K hK => ?_ | refine rgB rfl fun K hK => ?_ | refine rgC rfl fun K hK => ?_); simp only [go_sem,simprocAttr,hW,hEb,hEc,q1,q2,beq_self_eq_true,bne_self_eq_false])
       | (simp (disch := first | omega | rfl | (simp only [lnn]; omega)) only [spl])
       | (refine hK _ ?_; clear hK K)
       | (refine gdB_intro (fun h => ?_) (fun h => ?_) <;> simp only [go_sem,simprocAttr,h,hW,hEb,hEc,q1,q2,beq_self_eq_true,bne_self_eq_false] <;> (have h' := h; try simp only [bl] at h'))
       | (refine v_cond rfl (fun h => ?_) (fun h => ?_) <;> first | (exact Bool.noConfusion h) | (have h' := h; try simp only [bl] at h'))
       | (refine r_ret ?_; simp only [resL, resA, Tryz.f9, lk_cons', lk_nil', Nat.reduceBEq]; first | exact ⟨rfl, Sb.nil _, rfl⟩ | refine ⟨rfl, sbt ?_, rfl⟩ | refine ⟨rfl, Sb.of_eq ?_, rfl⟩)
       | (refine And.intro (by first | exact True.intro | omega | rfl | exact Nat.le_of_ble_eq_true rfl | (simp only [lnn]; omega) | exact List.forall_mem_nil _ | (refine List.forall_mem_cons.2 ⟨⟨_, rfl⟩, ?_⟩; repeat' first | exact List.forall_mem_nil _ | refine List.forall_mem_cons.2 ⟨⟨_, rfl⟩, ?_⟩)) ?_)
       | ((first | refine call_pure' (c_awake) rfl ?_ | refine call_pure' (kf) rfl ?_ | refine call_pure' (c_Within _ _ _) rfl ?_ | refine call_pure' (kcp) rfl ?_ | refine call_pure' (kck) rfl ?_ | refine call_pure' (kmd) rfl ?_ | refine call_pure' (kdm) rfl ?_ | refine call_pure' (krk) rfl ?_ | refine call_pure' (kle) rfl ?_); simp only [go_sem,simprocAttr,hW,hEb,hEc,q1,q2,beq_self_eq_true,bne_self_eq_false])
       | fail
      all_goals (first | rfl | exact absurd rfl (by assumption) | (exfalso; simp_all; done))
  by_cases hC : (ckT ts).2 = 0
  rotate_left
  · have hm : medE ts n = (ckT ts).2 := by unfold medE firstE; rw [show ((ckT ts).2 != 0) = true by simpa using hC]; rfl
    exact hfin _ hC hm (by unfold dmE firstE; rw [hm, show ((ckT ts).2 != 0) = true by simpa using hC]; rfl) (.inl rfl)
  by_cases hLe : lengthE n = 0
  rotate_left
  · have hm : medE ts n = lengthE n := by unfold medE firstE; rw [hC, bne_self_eq_false, cond_false]; unfold firstE; rw [show (lengthE n != 0) = true by simpa using hLe]; rfl
    exact hfin _ hLe hm (by unfold dmE firstE; rw [hm, show (lengthE n != 0) = true by simpa using hLe]; rfl) (.inr ⟨hC, rfl⟩)
  obtain ⟨hT, hck1⟩ := ckT_zero hC
  have hnb : 1 ≤ n ∧ n ≤ 200 := by
    unfold lengthE at hLe
    cases hw : within n 1 200 <;> rw [hw] at hLe
    · cases hLe
    · exact within_iff.1 hw
  have krm := c_refMedian ts n hT (by omega)
  rw [hC, hck1] at kck krk
  rw [hLe] at kle
  cases hH : holes ts n.toNat
  rotate_left
  · have hm : medE ts n = 14 := by unfold medE; rw [hC, hLe, hH]; rfl
    have hd : dmE ts n limit = 14 := by unfold dmE; rw [hm]; rfl
    have hmL : medL ts n = [] := by unfold medL; rw [hm]; rfl
    have kdm := c_DamagedErr ts n limit hl hn (by rw [hd]; decide)
    rw [hm, hmL] at kmd
    rw [hd] at kdm
    rw [hH] at krm
    change Pure _ _ _ (.tu [isl [], .v (.bool false)]) at krm
    refine p_intro evOk [] Tryz.func9 rfl Tryz.call9 ?_
    repeat' first
     | refine v_seq ?_ | refine v_block ?_ | refine v_ret ?_ | refine v_skip ?_ | (refine v_exit ?_; repeat' first | refine xB_eq ?_ | refine xB_ne rfl ?_)
     | ((first | refine rgA fun K hK => ?_ | refine rgB rfl fun K hK => ?_ | refine rgC rfl fun K hK => ?_); simp only [go_sem,simprocAttr,hW,beq_self_eq_true,bne_self_eq_false])
     | (simp (disch := first | omega | rfl | (simp only [lnn]; omega)) only [spl])
     | (refine hK _ ?_; clear hK K)
     | (refine gdB_intro (fun h => ?_) (fun h => ?_) <;> simp only [go_sem,simprocAttr,h,hW,beq_self_eq_true,bne_self_eq_false] <;> (have h' := h; try simp only [bl] at h'))
     | (refine v_cond rfl (fun h => ?_) (fun h => ?_) <;> first | (exact Bool.noConfusion h) | (have h' := h; try simp only [bl] at h'))
     | (refine r_ret ?_; simp only [resL, resA, Tryz.f9, lk_cons', lk_nil', Nat.reduceBEq]; first | exact ⟨rfl, Sb.nil _, rfl⟩ | refine ⟨rfl, sbt ?_, rfl⟩ | refine ⟨rfl, Sb.of_eq ?_, rfl⟩)
     | (refine And.intro (by first | exact True.intro | omega | rfl | exact Nat.le_of_ble_eq_true rfl | (simp only [lnn]; omega) | exact List.forall_mem_nil _ | (refine List.forall_mem_cons.2 ⟨⟨_, rfl⟩, ?_⟩; repeat' first | exact List.forall_mem_nil _ | refine List.forall_mem_cons.2 ⟨⟨_, rfl⟩, ?_⟩)) ?_)
     | ((first | refine call_pure' (c_awake) rfl ?_ | refine call_pure' (kf) rfl ?_ | refine call_pure' (c_Within _ _ _) rfl ?_ | refine call_pure' (kcp) rfl ?_ | refine call_pure' (kck) rfl ?_ | refine call_pure' (kmd) rfl ?_ | refine call_pure' (kdm) rfl ?_ | refine call_pure' (krk) rfl ?_ | refine call_pure' (kle) rfl ?_ | refine call_pure' (krm) rfl ?_); simp only [go_sem,simprocAttr,hW,beq_self_eq_true,bne_self_eq_false])
     | fail
    all_goals (first | rfl | exact absurd rfl (by assumption) | (exfalso; simp_all; done))
  have hm : medE ts n = 0 := by unfold medE; rw [hC, hLe, hH]; rfl
  have hmL : medL ts n = meds ts n.toNat := by unfold medL; rw [hm]; rfl
  rw [hm, hmL] at kmd
  rw [hH] at krm
  change Pure _ _ _ (.tu [isl (meds ts n.toNat), .v (.bool true)]) at krm
  have hml := meds_len ts n.toNat
  have kx := c_Ints (meds ts n.toNat) (meds ts n.toNat) (by unfold Len; omega)
  rw [decide_eq_true rfl] at kx
  cases hV : within limit 0 65534
  · have hd : dmE ts n limit = 2 := by unfold dmE; rw [hm, hV]; rfl
    have kdm := c_DamagedErr ts n limit hl hn (by rw [hd]; decide)
    rw [hd] at kdm
    generalize meds ts n.toNat = M at *
    refine p_intro evOk [] Tryz.func9 rfl Tryz.call9 ?_
    repeat' first
     | refine v_seq ?_ | refine v_block ?_ | refine v_ret ?_ | refine v_skip ?_ | (refine v_exit ?_; repeat' first | refine xB_eq ?_ | refine xB_ne rfl ?_)
     | ((first | refine rgA fun K hK => ?_ | refine rgB rfl fun K hK => ?_ | refine rgC rfl fun K hK => ?_); simp only [go_sem,simprocAttr,hW,hV,beq_self_eq_true,bne_self_eq_false])
     | (simp (disch := first | omega | rfl | (simp only [lnn]; omega)) only [spl])
     | (refine hK _ ?_; clear hK K)
     | (refine gdB_intro (fun h => ?_) (fun h => ?_) <;> simp only [go_sem,simprocAttr,h,hW,hV,beq_self_eq_true,bne_self_eq_false] <;> (have h' := h; try simp only [bl] at h'))
     | (refine v_cond rfl (fun h => ?_) (fun h => ?_) <;> first | (exact Bool.noConfusion h) | (have h' := h; try simp only [bl] at h'))
     | (refine r_ret ?_; simp only [resL, resA, Tryz.f9, lk_cons', lk_nil', Nat.reduceBEq]; first | exact ⟨rfl, Sb.nil _, rfl⟩ | refine ⟨rfl, sbt ?_, rfl⟩ | refine ⟨rfl, Sb.of_eq ?_, rfl⟩)
     | (refine And.intro (by first | exact True.intro | omega | rfl | exact Nat.le_of_ble_eq_true rfl | (simp only [lnn]; omega) | exact List.forall_mem_nil _ | (refine List.forall_mem_cons.2 ⟨⟨_, rfl⟩, ?_⟩; repeat' first | exact List.forall_mem_nil _ | refine List.forall_mem_cons.2 ⟨⟨_, rfl⟩, ?_⟩)) ?_)
     | ((first | refine call_pure' (c_awake) rfl ?_ | refine call_pure' (kf) rfl ?_ | refine call_pure' (c_Within _ _ _) rfl ?_ | refine call_pure' (kcp) rfl ?_ | refine call_pure' (kck) rfl ?_ | refine call_pure' (kmd) rfl ?_ | refine call_pure' (kdm) rfl ?_ | refine call_pure' (krk) rfl ?_ | refine call_pure' (kle) rfl ?_ | refine call_pure' (krm) rfl ?_ | refine call_pure' (kx) rfl ?_); simp only [go_sem,simprocAttr,hW,hV,beq_self_eq_true,bne_self_eq_false])
     | fail
    all_goals (first | rfl | exact absurd rfl (by assumption) | (exfalso; simp_all; done))
  · have hd : dmE ts n limit = 0 := by unfold dmE; rw [hm, hV]; rfl
    have kdm := c_DamagedG ts n limit hl hn hd
    have krd := c_refDamaged ts n.toNat limit hT (by omega) (within_iff.1 hV)
    have hdl := dmgs_len ts limit n.toNat hT.n6 (by omega)
    have ks := c_SameDamages (dmgs ts limit n.toNat) (by unfold Len; omega)
    generalize meds ts n.toNat = M at *
    generalize dmgs ts limit n.toNat = DD at *
    refine p_intro evOk [] Tryz.func9 rfl Tryz.call9 ?_
    repeat' first
     | refine v_seq ?_ | refine v_block ?_ | refine v_ret ?_ | refine v_skip ?_ | (refine v_exit ?_; repeat' first | refine xB_eq ?_ | refine xB_ne rfl ?_)
     | ((first | refine rgA fun K hK => ?_ | refine rgB rfl fun K hK => ?_ | refine rgC rfl fun K hK => ?_); simp only [go_sem,simprocAttr,hW,hV,beq_self_eq_true,bne_self_eq_false])
     | (simp (disch := first | omega | rfl | (simp only [lnn]; omega)) only [spl])
     | (refine hK _ ?_; clear hK K)
     | (refine gdB_intro (fun h => ?_) (fun h => ?_) <;> simp only [go_sem,simprocAttr,h,hW,hV,beq_self_eq_true,bne_self_eq_false] <;> (have h' := h; try simp only [bl] at h'))
     | (refine v_cond rfl (fun h => ?_) (fun h => ?_) <;> first | (exact Bool.noConfusion h) | (have h' := h; try simp only [bl] at h'))
     | (refine r_ret ?_; simp only [resL, resA, Tryz.f9, lk_cons', lk_nil', Nat.reduceBEq]; first | exact ⟨rfl, Sb.nil _, rfl⟩ | refine ⟨rfl, sbt ?_, rfl⟩ | refine ⟨rfl, Sb.of_eq ?_, rfl⟩)
     | (refine And.intro (by first | exact True.intro | omega | rfl | exact Nat.le_of_ble_eq_true rfl | (simp only [lnn]; omega) | exact List.forall_mem_nil _ | (refine List.forall_mem_cons.2 ⟨⟨_, rfl⟩, ?_⟩; repeat' first | exact List.forall_mem_nil _ | refine List.forall_mem_cons.2 ⟨⟨_, rfl⟩, ?_⟩)) ?_)
     | ((first | refine call_pure' (c_awake) rfl ?_ | refine call_pure' (kf) rfl ?_ | refine call_pure' (c_Within _ _ _) rfl ?_ | refine call_pure' (kcp) rfl ?_ | refine call_pure' (kck) rfl ?_ | refine call_pure' (kmd) rfl ?_ | refine call_pure' (kdm) rfl ?_ | refine call_pure' (krk) rfl ?_ | refine call_pure' (kle) rfl ?_ | refine call_pure' (krm) rfl ?_ | refine call_pure' (kx) rfl ?_ | refine call_pure' (krd) rfl ?_ | refine call_pure' (ks) rfl ?_); simp only [go_sem,simprocAttr,hW,hV,beq_self_eq_true,bne_self_eq_false])
     | fail
    all_goals (first | rfl | exact absurd rfl (by assumption) | (exfalso; simp_all; done))
end Go.Proofs.YtabmhfmglhjmjaaGreatDoor

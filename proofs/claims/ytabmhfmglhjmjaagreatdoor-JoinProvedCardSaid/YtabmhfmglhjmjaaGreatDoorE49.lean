import Derived.Test.YtabmhfmglhjmjaaGreatDoorE26
set_option maxRecDepth 100000
set_option maxHeartbeats 4000000
set_option linter.unusedSimpArgs false
set_option linter.unusedVariables false
set_option linter.unusedSectionVars false
namespace Go.Proofs.YtabmhfmglhjmjaaGreatDoor
open Go.Ab Go.RowKit
variable [Dr]

/-! ### the names of the best choice are a valid choice -/
theorem gs7_namA {dv : Nat → Nat → Int} {c : Int} {K T : Nat} {nm : Nat → ByteArray} {N k : Nat} (h : k < N) : gs7 (namA dv c K T nm N) k = nm (ch7 dv c K T nm k) := by simp [gs7, namA, h]
theorem cErTo_of {ts : List Tf} {G : Nat} {l : List ByteArray} : ∀ k : Nat, (∀ q, q < k → cEr ts G l q = 0) → cErTo ts G l k = 0
  | 0, _ => rfl
  | k + 1, h => by rw [cErTo, cErTo_of k fun q hq => h q (by omega), bne_self_eq_false, cond_false]; exact h k (by omega)
theorem cIx_of {ts : List Tf} (hT : TfOk ts) {l : List ByteArray} {k i : Nat} (hi : i < ts.length) (h : gs7 l k = (gt7 ts i).nm) : cIx ts l k = (i : Nat) := by
  unfold cIx
  refine idxP_at hi (nmEq_iff.2 h.symm) fun j hj => nmEq_false.2 fun e => ?_
  exact hT.uniq i j hj hi (e.trans h)
theorem cErr_of {ts : List Tf} (hT : TfOk ts) {G N : Nat} {l : List ByteArray} (hl : l.length = N) (s : Nat → Nat) (hs : ∀ k, k < N → s k < ts.length ∧ dvn ts G k (s k) ≠ -1 ∧ gs7 l k = (gt7 ts (s k)).nm) : cErr ts G N l = 0 ∧ ∀ k, k < N → cNat ts l k = s k := by
  have hx : ∀ k, k < N → cIx ts l k = (s k : Nat) := fun k hk => cIx_of hT (hs k hk).1 (hs k hk).2.2
  refine ⟨?_, fun k hk => by unfold cNat; rw [hx k hk, Int.toNat_natCast]⟩
  unfold cErr
  rw [hl, bne_self_eq_false, cond_false]
  refine cErTo_of N fun q hq => ?_
  unfold cEr
  rw [hx q hq, decide_eq_false (by omega), cond_false, Int.toNat_natCast, show (dvn ts G q (s q) == -1) = false by simpa using (hs q hq).2.1]; rfl
theorem best_err {ts : List Tf} {n g c : Int} {N G : Nat} (hT : TkOk ts n g c N G) (hg : ∀ k, k < N → gap7 ts G k = false) :
    cErr ts G N (namA (dvn ts G) c N ts.length (fun i => (gt7 ts i).nm) N) = 0 ∧ ∀ k, k < N → cNat ts (namA (dvn ts G) c N ts.length (fun i => (gt7 ts i).nm) N) k = ch7 (dvn ts G) c N ts.length (fun i => (gt7 ts i).nm) k := by
  have hd := tk_dp hT hg
  exact cErr_of hT.ok (namA_len _ _ _ _ _ _) _ fun k hk => ⟨(ch7_ok hd hk).1, (ch7_ok hd hk).2.1, gs7_namA hk⟩
end Go.Proofs.YtabmhfmglhjmjaaGreatDoor

import Derived.Test.YtabmhfmglhjmjaaGreatDoorE41
import Derived.Test.YtabmhfmglhjmjaaGreatDoorS07h
set_option maxRecDepth 100000
set_option maxHeartbeats 4000000
set_option linter.unusedSimpArgs false
set_option linter.unusedVariables false
set_option linter.unusedSectionVars false
namespace Go.Proofs.YtabmhfmglhjmjaaGreatDoor
open Go.Ab Go.RowKit
variable [Dr]
theorem prBad_le {ts : List Tf} {G : Nat} {c : Int} {pp : List (List Int)} {K : Nat} (h : prBad ts G c pp K = false) {k j : Nat} (hk : k < K) (hj : j < ts.length) (hd : dvn ts G k j ≠ -1) : badP ts G c pp k j = false := by
  have h1 := any_no.1 h k hk
  unfold badR at h1
  have h2 := any_no.1 h1 j hj
  unfold badQ at h2
  rw [show (dvn ts G k j != -1) = true by simpa using hd, Bool.true_and] at h2
  exact h2
theorem mem_costs {row : List Int} {f : Nat → Int} {n i : Nat} (hi : i < n) (h : (gi row i != -1) = true) : f i ∈ costsTo row f n := List.mem_of_getElem? (costsTo_at hi h)
theorem bound_le {ts : List Tf} {G : Nat} {c : Int} {pp : List (List Int)} {K : Nat} (hK : 1 ≤ K) (h : prBad ts G c pp K = false) {s : Nat → Nat} (hs : Good7 (dvn ts G) K ts.length s) : (bdT ts G pp K ts.length).1 ≤ costTo (dvn ts G) c s K := by
  have h0 := price_le (dv := dvn ts G) (c := c) (K := K) (T := ts.length) (pr := pvP pp) (fun j hj hd => by
    have := prBad_le h (k := 0) (by omega) hj hd
    have := of_decide_eq_false (show decide (dvn ts G 0 j < pvP pp 0 j) = false from this)
    omega) (fun k i j hk hi hj hdi hdj => by
    have hb := prBad_le h (k := k + 1) hk hj hdj
    have hb : ((bfC ts G c pp k j ts.length).any fun v => decide (v + dvn ts G (k + 1) j < pvP pp (k + 1) j)) = false := hb
    have hm : pvP pp k i + chg c i j ∈ bfC ts G c pp k j ts.length := mem_costs hi (by rw [gi_devRow hi]; simpa using hdi)
    rw [List.any_eq_false] at hb
    have := hb _ hm
    simp at this
    omega) hs (K - 1) (by omega)
  rw [show K - 1 + 1 = K by omega] at h0
  have := (bdT_le (pp := pp) (n := ts.length) (hs (K - 1) (by omega)).1 (hs (K - 1) (by omega)).2).2
  omega
end Go.Proofs.YtabmhfmglhjmjaaGreatDoor

/- Parts of the proof, put together by a program. -/
import Derived.Test.YtpdecefdhkhlnaaGreatDoorRows
import Derived.ProofKit
set_option linter.unusedVariables false
namespace Go.Proofs.YtpdecefdhkhlnaaGreatDoor
def joinA (P : Program) (fn : Func) (s : ChangeSpec) (c : OpenClaim) : Bool :=
  c.wf (OpenSpec.ofChange s) && laidOutB P && mapsRowed P &&
  fn.params.all (P.readableRec ·) && namedTie P c.named s.vars &&
  (c.stops == []) && (P.stops == []) && (c.knobs == []) && (P.stopKnobs == [])
def joinB (P : Program) (fn : Func) (s : ChangeSpec) (c : OpenClaim) : Bool :=
  (c.maps == (fn.params.toList ++ s.plain.varTypes P).any (P.mapsRec ·)) && (c.ifaces == (fn.params.toList ++ s.plain.varTypes P).any (P.ifacesRec ·)) && (c.mapsOut == P.mapsAmong fn.resultTypes.toList) &&
  (c.loops == (fn.params.toList ++ s.plain.varTypes P).any (P.loopsFrom ·)) && (c.wideKeys == (fn.params.toList ++ s.plain.varTypes P ++ fn.resultTypes.toList).any (P.wideKeysFrom ·)) &&
  s.vars.all (P.varReadable ·) && fn.resultTypes.all (fun t => P.readableRec t && decide (t < P.types.size)) && (c.ifacesOut == fn.resultTypes.toList.any (P.ifacesRec ·)) && (c.loopsOut == fn.resultTypes.toList.any (P.loopsFrom ·)) && (c.plainKeys == P.plainKeys) && c.shortTexts.isNone && P.stopsHeard && P.mayEnter && (c.lifted == P.liftsFinal) && (P.make == some c.make) && (c.kinds == (if c.domain.isEmpty then [] else fn.params.toList.map fun t => match P.underlying t with | some (.int k) => some k | _ => none)) && (c.pinned == c.pinnedBy) &&
  (c.veiled == (fn.params.toList ++ s.plain.varTypes P ++ fn.resultTypes.toList).any (P.veiledRec ·)) && c.veiledFits P fn.params.toList (fn.params.toList ++ s.plain.varTypes P ++ fn.resultTypes.toList)
theorem joined_parts {P : Program} {f : FuncId} {fn : Func} {s : ChangeSpec} {c : OpenClaim} (hA : joinA P fn s c = true) (h1 : (c.inPlace == P.inPlace f) = true) (h2 : (c.unfollowed == P.unfollowed f) = true) (h3 : (c.recurses == P.recurses f) = true) (h4 : (c.named == P.varsNamed f) = true) (hB : joinB P fn s c = true) : joinedFacts P f fn s c = true := by
  unfold joinA at hA
  unfold joinB at hB
  unfold joinedFacts
  rw [hA, h1, h2, h3, h4]
  simp only [Bool.true_and]
  exact hB
end Go.Proofs.YtpdecefdhkhlnaaGreatDoor

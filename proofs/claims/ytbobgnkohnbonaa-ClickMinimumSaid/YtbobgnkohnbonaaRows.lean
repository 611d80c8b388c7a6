/-
  No cell of these rows narrows 'for every input' (looked for: loops, veiled, ifaces, maps, wideKeys, modest, calm, conditions, laid).
  DERIVED. THE GIVEN ROWS OF THIS SEAT. 13 by the template 'for every input the law returns true; each argument reads behind the call as it read before'; 0 by the template 'total and deterministic' (their statements: YtbobgnkohnbonaaTotals.lean).
  GIVEN WITH THE SEED: the statements are not yours to turn. If you find one false, say at which input.
  Laid BY PROGRAM, IN A SANDBOX (cutbox-rows.mjs): the forced cells as the released guide's own fill.sh prints them over the translation 52743b73b8892739… (all of the seat's roots in one cut). By AI agents, Wed Nov 11 2026. No macro, syntax, notation, axiom, sorry.
-/
import Derived.Test.YtbobgnkohnbonaaChecked
import GoSem.Claim
import GoSem.ClaimJoined
import GoSem.ClaimMapViews
import Derived.JoinedTies
import Derived.KernelRfl
namespace Go.Proofs.Ytbobgnkohnbonaa
/- THE CELL 'sum', in the pinned program and in every row, IS THE sha256 OF THE DUMP (.gsa) THAT YtbobgnkohnbonaaProg.lean LOADS. Nothing in Lean hashes anything: it is a label: what it is worth is what the hold of that sum in a sandbox is worth. -/
noncomputable def Try.pinned : Pinned := { name := "ytbobgnkohnbonaa", sum := "52743b73b8892739293acb04600f88dd0f038abdfc2138aed89fce41ff503a48", checked := Try.checked }
namespace Rows
def none {H : Type} : Left H := { results := [], args := [] }

/-- 'lacquerlaw05.ClickMarks': WHATEVER THE INPUT: true; the input reads as it did. -/
def clickMarksSpec : ChangeSpec := { name := "clickMarks", fn := fun _ => fun
  | [d1, d2] => { results := [.lit (.bool true)], args := [d1, d2] }
  | _ => none }
def clickMarksRow : OpenClaim := { program := "ytbobgnkohnbonaa", sum := "52743b73b8892739293acb04600f88dd0f038abdfc2138aed89fce41ff503a48", func := "lacquer/lacquerlaw05.ClickMarks", spec := "clickMarks", unfollowed := true, recurses := true, apart := false }
def ClickMarksSaid : Prop := clickMarksRow.holds Try.pinned (OpenSpec.ofChange clickMarksSpec)

/-- ITS FALSE NEIGHBOUR: 'it returns false'. Refute it at one input. -/
def clickMarksWrong : ChangeSpec := { name := "clickMarks", fn := fun _ => fun
  | [d1, d2] => { results := [.lit (.bool false)], args := [d1, d2] }
  | _ => none }
def ClickMarksWrongFalsely : Prop := clickMarksRow.holds Try.pinned (OpenSpec.ofChange clickMarksWrong)

/-- 'lacquerlaw05.ClickRuns': WHATEVER THE INPUT: true; the input reads as it did. -/
def clickRunsSpec : ChangeSpec := { name := "clickRuns", fn := fun _ => fun
  | [d1, d2] => { results := [.lit (.bool true)], args := [d1, d2] }
  | _ => none }
def clickRunsRow : OpenClaim := { program := "ytbobgnkohnbonaa", sum := "52743b73b8892739293acb04600f88dd0f038abdfc2138aed89fce41ff503a48", func := "lacquer/lacquerlaw05.ClickRuns", spec := "clickRuns", unfollowed := true, recurses := true, apart := false }
def ClickRunsSaid : Prop := clickRunsRow.holds Try.pinned (OpenSpec.ofChange clickRunsSpec)

/-- ITS FALSE NEIGHBOUR: 'it returns false'. Refute it at one input. -/
def clickRunsWrong : ChangeSpec := { name := "clickRuns", fn := fun _ => fun
  | [d1, d2] => { results := [.lit (.bool false)], args := [d1, d2] }
  | _ => none }
def ClickRunsWrongFalsely : Prop := clickRunsRow.holds Try.pinned (OpenSpec.ofChange clickRunsWrong)

/-- 'lacquerlaw05.ClickDeviations': WHATEVER THE INPUT: true; the input reads as it did. -/
def clickDeviationsSpec : ChangeSpec := { name := "clickDeviations", fn := fun _ => fun
  | [d1, d2] => { results := [.lit (.bool true)], args := [d1, d2] }
  | _ => none }
def clickDeviationsRow : OpenClaim := { program := "ytbobgnkohnbonaa", sum := "52743b73b8892739293acb04600f88dd0f038abdfc2138aed89fce41ff503a48", func := "lacquer/lacquerlaw05.ClickDeviations", spec := "clickDeviations", unfollowed := true, recurses := true, apart := false }
def ClickDeviationsSaid : Prop := clickDeviationsRow.holds Try.pinned (OpenSpec.ofChange clickDeviationsSpec)

/-- ITS FALSE NEIGHBOUR: 'it returns false'. Refute it at one input. -/
def clickDeviationsWrong : ChangeSpec := { name := "clickDeviations", fn := fun _ => fun
  | [d1, d2] => { results := [.lit (.bool false)], args := [d1, d2] }
  | _ => none }
def ClickDeviationsWrongFalsely : Prop := clickDeviationsRow.holds Try.pinned (OpenSpec.ofChange clickDeviationsWrong)

/-- 'lacquerlaw05.ClickPassages': WHATEVER THE INPUT: true; the input reads as it did. -/
def clickPassagesSpec : ChangeSpec := { name := "clickPassages", fn := fun _ => fun
  | [d1, d2] => { results := [.lit (.bool true)], args := [d1, d2] }
  | _ => none }
def clickPassagesRow : OpenClaim := { program := "ytbobgnkohnbonaa", sum := "52743b73b8892739293acb04600f88dd0f038abdfc2138aed89fce41ff503a48", func := "lacquer/lacquerlaw05.ClickPassages", spec := "clickPassages", unfollowed := true, recurses := true, apart := false }
def ClickPassagesSaid : Prop := clickPassagesRow.holds Try.pinned (OpenSpec.ofChange clickPassagesSpec)

/-- ITS FALSE NEIGHBOUR: 'it returns false'. Refute it at one input. -/
def clickPassagesWrong : ChangeSpec := { name := "clickPassages", fn := fun _ => fun
  | [d1, d2] => { results := [.lit (.bool false)], args := [d1, d2] }
  | _ => none }
def ClickPassagesWrongFalsely : Prop := clickPassagesRow.holds Try.pinned (OpenSpec.ofChange clickPassagesWrong)

/-- 'lacquerlaw05.ClickHums': WHATEVER THE INPUT: true; the input reads as it did. -/
def clickHumsSpec : ChangeSpec := { name := "clickHums", fn := fun _ => fun
  | [d1, d2] => { results := [.lit (.bool true)], args := [d1, d2] }
  | _ => none }
def clickHumsRow : OpenClaim := { program := "ytbobgnkohnbonaa", sum := "52743b73b8892739293acb04600f88dd0f038abdfc2138aed89fce41ff503a48", func := "lacquer/lacquerlaw05.ClickHums", spec := "clickHums", unfollowed := true, recurses := true, apart := false }
def ClickHumsSaid : Prop := clickHumsRow.holds Try.pinned (OpenSpec.ofChange clickHumsSpec)

/-- ITS FALSE NEIGHBOUR: 'it returns false'. Refute it at one input. -/
def clickHumsWrong : ChangeSpec := { name := "clickHums", fn := fun _ => fun
  | [d1, d2] => { results := [.lit (.bool false)], args := [d1, d2] }
  | _ => none }
def ClickHumsWrongFalsely : Prop := clickHumsRow.holds Try.pinned (OpenSpec.ofChange clickHumsWrong)

/-- 'lacquerlaw05.ClickTakenBack': WHATEVER THE INPUT: true; the input reads as it did. -/
def clickTakenBackSpec : ChangeSpec := { name := "clickTakenBack", fn := fun _ => fun
  | [d1, d2, d3] => { results := [.lit (.bool true)], args := [d1, d2, d3] }
  | _ => none }
def clickTakenBackRow : OpenClaim := { program := "ytbobgnkohnbonaa", sum := "52743b73b8892739293acb04600f88dd0f038abdfc2138aed89fce41ff503a48", func := "lacquer/lacquerlaw05.ClickTakenBack", spec := "clickTakenBack", unfollowed := true, recurses := true, apart := false }
def ClickTakenBackSaid : Prop := clickTakenBackRow.holds Try.pinned (OpenSpec.ofChange clickTakenBackSpec)

/-- ITS FALSE NEIGHBOUR: 'it returns false'. Refute it at one input. -/
def clickTakenBackWrong : ChangeSpec := { name := "clickTakenBack", fn := fun _ => fun
  | [d1, d2, d3] => { results := [.lit (.bool false)], args := [d1, d2, d3] }
  | _ => none }
def ClickTakenBackWrongFalsely : Prop := clickTakenBackRow.holds Try.pinned (OpenSpec.ofChange clickTakenBackWrong)

/-- 'lacquerlaw05.ClickMinimum': WHATEVER THE INPUT: true; the input reads as it did. -/
def clickMinimumSpec : ChangeSpec := { name := "clickMinimum", fn := fun _ => fun
  | [d1, d2, d3] => { results := [.lit (.bool true)], args := [d1, d2, d3] }
  | _ => none }
def clickMinimumRow : OpenClaim := { program := "ytbobgnkohnbonaa", sum := "52743b73b8892739293acb04600f88dd0f038abdfc2138aed89fce41ff503a48", func := "lacquer/lacquerlaw05.ClickMinimum", spec := "clickMinimum", unfollowed := true, recurses := true, apart := false }
def ClickMinimumSaid : Prop := clickMinimumRow.holds Try.pinned (OpenSpec.ofChange clickMinimumSpec)

/-- ITS FALSE NEIGHBOUR: 'it returns false'. Refute it at one input. -/
def clickMinimumWrong : ChangeSpec := { name := "clickMinimum", fn := fun _ => fun
  | [d1, d2, d3] => { results := [.lit (.bool false)], args := [d1, d2, d3] }
  | _ => none }
def ClickMinimumWrongFalsely : Prop := clickMinimumRow.holds Try.pinned (OpenSpec.ofChange clickMinimumWrong)

/-- 'lacquerlaw05.ClickStraight': WHATEVER THE INPUT: true; the input reads as it did. -/
def clickStraightSpec : ChangeSpec := { name := "clickStraight", fn := fun _ => fun
  | [d1, d2, d3] => { results := [.lit (.bool true)], args := [d1, d2, d3] }
  | _ => none }
def clickStraightRow : OpenClaim := { program := "ytbobgnkohnbonaa", sum := "52743b73b8892739293acb04600f88dd0f038abdfc2138aed89fce41ff503a48", func := "lacquer/lacquerlaw05.ClickStraight", spec := "clickStraight", unfollowed := true, recurses := true, apart := false }
def ClickStraightSaid : Prop := clickStraightRow.holds Try.pinned (OpenSpec.ofChange clickStraightSpec)

/-- ITS FALSE NEIGHBOUR: 'it returns false'. Refute it at one input. -/
def clickStraightWrong : ChangeSpec := { name := "clickStraight", fn := fun _ => fun
  | [d1, d2, d3] => { results := [.lit (.bool false)], args := [d1, d2, d3] }
  | _ => none }
def ClickStraightWrongFalsely : Prop := clickStraightRow.holds Try.pinned (OpenSpec.ofChange clickStraightWrong)

/-- 'lacquerlaw05.ClickPeriods': WHATEVER THE INPUT: true; the input reads as it did. -/
def clickPeriodsSpec : ChangeSpec := { name := "clickPeriods", fn := fun _ => fun
  | [d1, d2, d3] => { results := [.lit (.bool true)], args := [d1, d2, d3] }
  | _ => none }
def clickPeriodsRow : OpenClaim := { program := "ytbobgnkohnbonaa", sum := "52743b73b8892739293acb04600f88dd0f038abdfc2138aed89fce41ff503a48", func := "lacquer/lacquerlaw05.ClickPeriods", spec := "clickPeriods", unfollowed := true, recurses := true, apart := false }
def ClickPeriodsSaid : Prop := clickPeriodsRow.holds Try.pinned (OpenSpec.ofChange clickPeriodsSpec)

/-- ITS FALSE NEIGHBOUR: 'it returns false'. Refute it at one input. -/
def clickPeriodsWrong : ChangeSpec := { name := "clickPeriods", fn := fun _ => fun
  | [d1, d2, d3] => { results := [.lit (.bool false)], args := [d1, d2, d3] }
  | _ => none }
def ClickPeriodsWrongFalsely : Prop := clickPeriodsRow.holds Try.pinned (OpenSpec.ofChange clickPeriodsWrong)

/-- 'lacquerlaw05.ClickInterpolated': WHATEVER THE INPUT: true; the input reads as it did. -/
def clickInterpolatedSpec : ChangeSpec := { name := "clickInterpolated", fn := fun _ => fun
  | [d1, d2, d3] => { results := [.lit (.bool true)], args := [d1, d2, d3] }
  | _ => none }
def clickInterpolatedRow : OpenClaim := { program := "ytbobgnkohnbonaa", sum := "52743b73b8892739293acb04600f88dd0f038abdfc2138aed89fce41ff503a48", func := "lacquer/lacquerlaw05.ClickInterpolated", spec := "clickInterpolated", unfollowed := true, recurses := true, apart := false }
def ClickInterpolatedSaid : Prop := clickInterpolatedRow.holds Try.pinned (OpenSpec.ofChange clickInterpolatedSpec)

/-- ITS FALSE NEIGHBOUR: 'it returns false'. Refute it at one input. -/
def clickInterpolatedWrong : ChangeSpec := { name := "clickInterpolated", fn := fun _ => fun
  | [d1, d2, d3] => { results := [.lit (.bool false)], args := [d1, d2, d3] }
  | _ => none }
def ClickInterpolatedWrongFalsely : Prop := clickInterpolatedRow.holds Try.pinned (OpenSpec.ofChange clickInterpolatedWrong)

/-- 'lacquerlaw05.ClickMended': WHATEVER THE INPUT: true; the input reads as it did. -/
def clickMendedSpec : ChangeSpec := { name := "clickMended", fn := fun _ => fun
  | [d1, d2] => { results := [.lit (.bool true)], args := [d1, d2] }
  | _ => none }
def clickMendedRow : OpenClaim := { program := "ytbobgnkohnbonaa", sum := "52743b73b8892739293acb04600f88dd0f038abdfc2138aed89fce41ff503a48", func := "lacquer/lacquerlaw05.ClickMended", spec := "clickMended", unfollowed := true, recurses := true, apart := false }
def ClickMendedSaid : Prop := clickMendedRow.holds Try.pinned (OpenSpec.ofChange clickMendedSpec)

/-- ITS FALSE NEIGHBOUR: 'it returns false'. Refute it at one input. -/
def clickMendedWrong : ChangeSpec := { name := "clickMended", fn := fun _ => fun
  | [d1, d2] => { results := [.lit (.bool false)], args := [d1, d2] }
  | _ => none }
def ClickMendedWrongFalsely : Prop := clickMendedRow.holds Try.pinned (OpenSpec.ofChange clickMendedWrong)

/-- 'lacquerlaw05.ClickProofs': WHATEVER THE INPUT: true; the input reads as it did. -/
def clickProofsSpec : ChangeSpec := { name := "clickProofs", fn := fun _ => fun
  | [d1, d2, d3] => { results := [.lit (.bool true)], args := [d1, d2, d3] }
  | _ => none }
def clickProofsRow : OpenClaim := { program := "ytbobgnkohnbonaa", sum := "52743b73b8892739293acb04600f88dd0f038abdfc2138aed89fce41ff503a48", func := "lacquer/lacquerlaw05.ClickProofs", spec := "clickProofs", unfollowed := true, recurses := true, apart := false }
def ClickProofsSaid : Prop := clickProofsRow.holds Try.pinned (OpenSpec.ofChange clickProofsSpec)

/-- ITS FALSE NEIGHBOUR: 'it returns false'. Refute it at one input. -/
def clickProofsWrong : ChangeSpec := { name := "clickProofs", fn := fun _ => fun
  | [d1, d2, d3] => { results := [.lit (.bool false)], args := [d1, d2, d3] }
  | _ => none }
def ClickProofsWrongFalsely : Prop := clickProofsRow.holds Try.pinned (OpenSpec.ofChange clickProofsWrong)

/-- 'lacquerlaw05.ClickOnly': WHATEVER THE INPUT: true; the input reads as it did. -/
def clickOnlySpec : ChangeSpec := { name := "clickOnly", fn := fun _ => fun
  | [d1, d2] => { results := [.lit (.bool true)], args := [d1, d2] }
  | _ => none }
def clickOnlyRow : OpenClaim := { program := "ytbobgnkohnbonaa", sum := "52743b73b8892739293acb04600f88dd0f038abdfc2138aed89fce41ff503a48", func := "lacquer/lacquerlaw05.ClickOnly", spec := "clickOnly", unfollowed := true, recurses := true, apart := false }
def ClickOnlySaid : Prop := clickOnlyRow.holds Try.pinned (OpenSpec.ofChange clickOnlySpec)

/-- ITS FALSE NEIGHBOUR: 'it returns false'. Refute it at one input. -/
def clickOnlyWrong : ChangeSpec := { name := "clickOnly", fn := fun _ => fun
  | [d1, d2] => { results := [.lit (.bool false)], args := [d1, d2] }
  | _ => none }
def ClickOnlyWrongFalsely : Prop := clickOnlyRow.holds Try.pinned (OpenSpec.ofChange clickOnlyWrong)

/- THE SECOND FORM. 'bulk': how many values and letters a reading holds, each counted each time it is reached (what is shared counts as often as it is met; a slice's spare places count too). A statement '..UptoSaid' is the law's where the arguments, and the package variables that the reading takes, are together of bulk at most 1048576: NARROWER than '..Said'. Prove '..Said' where nothing that the law and all that it calls make is longer than what came in: it says more and counts as full. Else prove '..UptoSaid'. A law counts once. -/
mutual
def uptoBulk {H : Type} : DataW H → Nat
  | .lit (.string bytes) => bytes.length + 1
  | .lit _ => 1
  | .nil => 1
  | .ptr d => uptoBulk d + 1
  | .slice elems spare => uptoBulkAll elems + uptoBulkAll spare + 1
  | .agg parts => uptoBulkAll parts + 1
  | .iface _ d => uptoBulk d + 1
  | .map entries => uptoBulkEntries entries + 1
  | .held _ => 1
def uptoBulkAll {H : Type} : List (DataW H) → Nat
  | [] => 0
  | d :: r => uptoBulk d + uptoBulkAll r
def uptoBulkEntries {H : Type} : List (Lit × DataW H) → Nat
  | [] => 0
  | x :: r => uptoBulkEntry x + uptoBulkEntries r
def uptoBulkEntry {H : Type} : Lit × DataW H → Nat
  | (.string bytes, d) => bytes.length + uptoBulk d + 1
  | (_, d) => uptoBulk d + 1
 end
def uptoSmall : (H : Type) → List (DataW H) → Bool := fun _ ds => decide (uptoBulkAll ds ≤ 1048576)
def OpenSpec.upto (s : _root_.Go.ChangeSpec) : _root_.Go.OpenSpec := { _root_.Go.OpenSpec.ofChange s with cond := some uptoSmall }

/-- 'lacquerlaw05.ClickMarks', WHERE WHAT IT READS IS OF BULK AT MOST 1048576: true; the input reads as it did. -/
def clickMarksUptoRow : OpenClaim := { program := "ytbobgnkohnbonaa", sum := "52743b73b8892739293acb04600f88dd0f038abdfc2138aed89fce41ff503a48", func := "lacquer/lacquerlaw05.ClickMarks", spec := "clickMarks", unfollowed := true, recurses := true, apart := false, narrowed := true }
def ClickMarksUptoSaid : Prop := clickMarksUptoRow.holds Try.pinned (OpenSpec.upto clickMarksSpec)

/-- 'lacquerlaw05.ClickRuns', WHERE WHAT IT READS IS OF BULK AT MOST 1048576: true; the input reads as it did. -/
def clickRunsUptoRow : OpenClaim := { program := "ytbobgnkohnbonaa", sum := "52743b73b8892739293acb04600f88dd0f038abdfc2138aed89fce41ff503a48", func := "lacquer/lacquerlaw05.ClickRuns", spec := "clickRuns", unfollowed := true, recurses := true, apart := false, narrowed := true }
def ClickRunsUptoSaid : Prop := clickRunsUptoRow.holds Try.pinned (OpenSpec.upto clickRunsSpec)

/-- 'lacquerlaw05.ClickDeviations', WHERE WHAT IT READS IS OF BULK AT MOST 1048576: true; the input reads as it did. -/
def clickDeviationsUptoRow : OpenClaim := { program := "ytbobgnkohnbonaa", sum := "52743b73b8892739293acb04600f88dd0f038abdfc2138aed89fce41ff503a48", func := "lacquer/lacquerlaw05.ClickDeviations", spec := "clickDeviations", unfollowed := true, recurses := true, apart := false, narrowed := true }
def ClickDeviationsUptoSaid : Prop := clickDeviationsUptoRow.holds Try.pinned (OpenSpec.upto clickDeviationsSpec)

/-- 'lacquerlaw05.ClickPassages', WHERE WHAT IT READS IS OF BULK AT MOST 1048576: true; the input reads as it did. -/
def clickPassagesUptoRow : OpenClaim := { program := "ytbobgnkohnbonaa", sum := "52743b73b8892739293acb04600f88dd0f038abdfc2138aed89fce41ff503a48", func := "lacquer/lacquerlaw05.ClickPassages", spec := "clickPassages", unfollowed := true, recurses := true, apart := false, narrowed := true }
def ClickPassagesUptoSaid : Prop := clickPassagesUptoRow.holds Try.pinned (OpenSpec.upto clickPassagesSpec)

/-- 'lacquerlaw05.ClickHums', WHERE WHAT IT READS IS OF BULK AT MOST 1048576: true; the input reads as it did. -/
def clickHumsUptoRow : OpenClaim := { program := "ytbobgnkohnbonaa", sum := "52743b73b8892739293acb04600f88dd0f038abdfc2138aed89fce41ff503a48", func := "lacquer/lacquerlaw05.ClickHums", spec := "clickHums", unfollowed := true, recurses := true, apart := false, narrowed := true }
def ClickHumsUptoSaid : Prop := clickHumsUptoRow.holds Try.pinned (OpenSpec.upto clickHumsSpec)

/-- 'lacquerlaw05.ClickTakenBack', WHERE WHAT IT READS IS OF BULK AT MOST 1048576: true; the input reads as it did. -/
def clickTakenBackUptoRow : OpenClaim := { program := "ytbobgnkohnbonaa", sum := "52743b73b8892739293acb04600f88dd0f038abdfc2138aed89fce41ff503a48", func := "lacquer/lacquerlaw05.ClickTakenBack", spec := "clickTakenBack", unfollowed := true, recurses := true, apart := false, narrowed := true }
def ClickTakenBackUptoSaid : Prop := clickTakenBackUptoRow.holds Try.pinned (OpenSpec.upto clickTakenBackSpec)

/-- 'lacquerlaw05.ClickMinimum', WHERE WHAT IT READS IS OF BULK AT MOST 1048576: true; the input reads as it did. -/
def clickMinimumUptoRow : OpenClaim := { program := "ytbobgnkohnbonaa", sum := "52743b73b8892739293acb04600f88dd0f038abdfc2138aed89fce41ff503a48", func := "lacquer/lacquerlaw05.ClickMinimum", spec := "clickMinimum", unfollowed := true, recurses := true, apart := false, narrowed := true }
def ClickMinimumUptoSaid : Prop := clickMinimumUptoRow.holds Try.pinned (OpenSpec.upto clickMinimumSpec)

/-- 'lacquerlaw05.ClickStraight', WHERE WHAT IT READS IS OF BULK AT MOST 1048576: true; the input reads as it did. -/
def clickStraightUptoRow : OpenClaim := { program := "ytbobgnkohnbonaa", sum := "52743b73b8892739293acb04600f88dd0f038abdfc2138aed89fce41ff503a48", func := "lacquer/lacquerlaw05.ClickStraight", spec := "clickStraight", unfollowed := true, recurses := true, apart := false, narrowed := true }
def ClickStraightUptoSaid : Prop := clickStraightUptoRow.holds Try.pinned (OpenSpec.upto clickStraightSpec)

/-- 'lacquerlaw05.ClickPeriods', WHERE WHAT IT READS IS OF BULK AT MOST 1048576: true; the input reads as it did. -/
def clickPeriodsUptoRow : OpenClaim := { program := "ytbobgnkohnbonaa", sum := "52743b73b8892739293acb04600f88dd0f038abdfc2138aed89fce41ff503a48", func := "lacquer/lacquerlaw05.ClickPeriods", spec := "clickPeriods", unfollowed := true, recurses := true, apart := false, narrowed := true }
def ClickPeriodsUptoSaid : Prop := clickPeriodsUptoRow.holds Try.pinned (OpenSpec.upto clickPeriodsSpec)

/-- 'lacquerlaw05.ClickInterpolated', WHERE WHAT IT READS IS OF BULK AT MOST 1048576: true; the input reads as it did. -/
def clickInterpolatedUptoRow : OpenClaim := { program := "ytbobgnkohnbonaa", sum := "52743b73b8892739293acb04600f88dd0f038abdfc2138aed89fce41ff503a48", func := "lacquer/lacquerlaw05.ClickInterpolated", spec := "clickInterpolated", unfollowed := true, recurses := true, apart := false, narrowed := true }
def ClickInterpolatedUptoSaid : Prop := clickInterpolatedUptoRow.holds Try.pinned (OpenSpec.upto clickInterpolatedSpec)

/-- 'lacquerlaw05.ClickMended', WHERE WHAT IT READS IS OF BULK AT MOST 1048576: true; the input reads as it did. -/
def clickMendedUptoRow : OpenClaim := { program := "ytbobgnkohnbonaa", sum := "52743b73b8892739293acb04600f88dd0f038abdfc2138aed89fce41ff503a48", func := "lacquer/lacquerlaw05.ClickMended", spec := "clickMended", unfollowed := true, recurses := true, apart := false, narrowed := true }
def ClickMendedUptoSaid : Prop := clickMendedUptoRow.holds Try.pinned (OpenSpec.upto clickMendedSpec)

/-- 'lacquerlaw05.ClickProofs', WHERE WHAT IT READS IS OF BULK AT MOST 1048576: true; the input reads as it did. -/
def clickProofsUptoRow : OpenClaim := { program := "ytbobgnkohnbonaa", sum := "52743b73b8892739293acb04600f88dd0f038abdfc2138aed89fce41ff503a48", func := "lacquer/lacquerlaw05.ClickProofs", spec := "clickProofs", unfollowed := true, recurses := true, apart := false, narrowed := true }
def ClickProofsUptoSaid : Prop := clickProofsUptoRow.holds Try.pinned (OpenSpec.upto clickProofsSpec)

/-- 'lacquerlaw05.ClickOnly', WHERE WHAT IT READS IS OF BULK AT MOST 1048576: true; the input reads as it did. -/
def clickOnlyUptoRow : OpenClaim := { program := "ytbobgnkohnbonaa", sum := "52743b73b8892739293acb04600f88dd0f038abdfc2138aed89fce41ff503a48", func := "lacquer/lacquerlaw05.ClickOnly", spec := "clickOnly", unfollowed := true, recurses := true, apart := false, narrowed := true }
def ClickOnlyUptoSaid : Prop := clickOnlyUptoRow.holds Try.pinned (OpenSpec.upto clickOnlySpec)

end Rows
end Go.Proofs.Ytbobgnkohnbonaa

/-
  NARROWER THAN 'FOR EVERY INPUT', by the rows' own cells (each row's printed sentence says how): JoinShifted: laid · JoinBest: laid · JoinCorrelations: laid · JoinTasks: laid · JoinLandmarks: laid · JoinAgreed: laid · JoinTransfers: laid · JoinVoted: laid · TopJoinRestored: laid · JoinPrices: laid · JoinPlans: laid · JoinProved: laid · JoinAnyOrder: laid · JoinStrings: laid.
  DERIVED. THE GIVEN ROWS OF THIS SEAT. 14 by the template 'for every input the law returns true; each argument reads behind the call as it read before'; 0 by the template 'total and deterministic' (their statements: YtabmhfmglhjmjaaGreatDoorTotals.lean).
  GIVEN WITH THE SEED: the statements are not yours to turn. If you find one false, say at which input.
  Laid BY PROGRAM, IN A SANDBOX (cutbox-rows.mjs): the forced cells as the released guide's own fill.sh prints them over the translation e9ffd8587ead6eee… (all of the seat's roots in one cut). By AI agents, Wed Nov 11 2026. No macro, syntax, notation, axiom, sorry.
-/
import Derived.Test.YtabmhfmglhjmjaaGreatDoorChecked
import GoSem.PinnedTables
import GoSem.Claim
import GoSem.ClaimJoined
import GoSem.ClaimMapViews
import Derived.JoinedTies
import Derived.KernelRfl
namespace Go.Proofs.YtabmhfmglhjmjaaGreatDoor
/- THE CELL 'sum', in the pinned program and in every row, IS THE sha256 OF THE DUMP (.gsa) THAT YtabmhfmglhjmjaaGreatDoorProg.lean LOADS. Nothing in Lean hashes anything: it is a label: what it is worth is what the hold of that sum in a sandbox is worth. -/
noncomputable def Tryz.pinned : Pinned := { name := "ytabmhfmglhjmjaagreatdoor", sum := "e9ffd8587ead6eeefb6138af9e90d129843b29464c34b7a20b462fe6df576437", checked := Tryz.checked }
namespace Rows
def none {H : Type} : Left H := { results := [], args := [] }

/- WHAT THE LISTED PACKAGE-LEVEL VARIABLES READ AS WHEN THE CALL BEGINS. Each datum BY PROGRAM (the guide's laid-datum.mjs) off the statement by which the dump's own 'gosem.cut.vars' lays the variable. In a bare row this is a premise. The card (YtabmhfmglhjmjaaGreatDoorCards.lean) ties it to the program's text. -/
def laid_math_bits_deBruijn32tab {H : Type} : DataW H := .agg [.lit (.int .u8 0), .lit (.int .u8 1), .lit (.int .u8 28), .lit (.int .u8 2), .lit (.int .u8 29), .lit (.int .u8 14), .lit (.int .u8 24), .lit (.int .u8 3), .lit (.int .u8 30), .lit (.int .u8 22), .lit (.int .u8 20), .lit (.int .u8 15), .lit (.int .u8 25), .lit (.int .u8 17), .lit (.int .u8 4), .lit (.int .u8 8), .lit (.int .u8 31), .lit (.int .u8 27), .lit (.int .u8 13), .lit (.int .u8 23), .lit (.int .u8 21), .lit (.int .u8 19), .lit (.int .u8 16), .lit (.int .u8 7), .lit (.int .u8 26), .lit (.int .u8 12), .lit (.int .u8 18), .lit (.int .u8 6), .lit (.int .u8 11), .lit (.int .u8 5), .lit (.int .u8 10), .lit (.int .u8 9)]
def laid_math_bits_deBruijn64tab {H : Type} : DataW H := .agg [.lit (.int .u8 0), .lit (.int .u8 1), .lit (.int .u8 56), .lit (.int .u8 2), .lit (.int .u8 57), .lit (.int .u8 49), .lit (.int .u8 28), .lit (.int .u8 3), .lit (.int .u8 61), .lit (.int .u8 58), .lit (.int .u8 42), .lit (.int .u8 50), .lit (.int .u8 38), .lit (.int .u8 29), .lit (.int .u8 17), .lit (.int .u8 4), .lit (.int .u8 62), .lit (.int .u8 47), .lit (.int .u8 59), .lit (.int .u8 36), .lit (.int .u8 45), .lit (.int .u8 43), .lit (.int .u8 51), .lit (.int .u8 22), .lit (.int .u8 53), .lit (.int .u8 39), .lit (.int .u8 33), .lit (.int .u8 30), .lit (.int .u8 24), .lit (.int .u8 18), .lit (.int .u8 12), .lit (.int .u8 5), .lit (.int .u8 63), .lit (.int .u8 55), .lit (.int .u8 48), .lit (.int .u8 27), .lit (.int .u8 60), .lit (.int .u8 41), .lit (.int .u8 37), .lit (.int .u8 16), .lit (.int .u8 46), .lit (.int .u8 35), .lit (.int .u8 44), .lit (.int .u8 21), .lit (.int .u8 52), .lit (.int .u8 32), .lit (.int .u8 23), .lit (.int .u8 11), .lit (.int .u8 54), .lit (.int .u8 26), .lit (.int .u8 40), .lit (.int .u8 15), .lit (.int .u8 34), .lit (.int .u8 20), .lit (.int .u8 31), .lit (.int .u8 10), .lit (.int .u8 25), .lit (.int .u8 14), .lit (.int .u8 19), .lit (.int .u8 9), .lit (.int .u8 13), .lit (.int .u8 8), .lit (.int .u8 7), .lit (.int .u8 6)]
def laid_internal_strconv_uint64pow10 {H : Type} : DataW H := .agg [.lit (.int .u64 1), .lit (.int .u64 10), .lit (.int .u64 100), .lit (.int .u64 1000), .lit (.int .u64 10000), .lit (.int .u64 100000), .lit (.int .u64 1000000), .lit (.int .u64 10000000), .lit (.int .u64 100000000), .lit (.int .u64 1000000000), .lit (.int .u64 10000000000), .lit (.int .u64 100000000000), .lit (.int .u64 1000000000000), .lit (.int .u64 10000000000000), .lit (.int .u64 100000000000000), .lit (.int .u64 1000000000000000), .lit (.int .u64 10000000000000000), .lit (.int .u64 100000000000000000), .lit (.int .u64 1000000000000000000), .lit (.int .u64 10000000000000000000)]
def laid_unicode_utf8_acceptRanges {H : Type} : DataW H := .agg [.agg [.lit (.int .u8 128), .lit (.int .u8 191)], .agg [.lit (.int .u8 160), .lit (.int .u8 191)], .agg [.lit (.int .u8 128), .lit (.int .u8 159)], .agg [.lit (.int .u8 144), .lit (.int .u8 191)], .agg [.lit (.int .u8 128), .lit (.int .u8 143)], .agg [.lit (.int .u8 0), .lit (.int .u8 0)], .agg [.lit (.int .u8 0), .lit (.int .u8 0)], .agg [.lit (.int .u8 0), .lit (.int .u8 0)], .agg [.lit (.int .u8 0), .lit (.int .u8 0)], .agg [.lit (.int .u8 0), .lit (.int .u8 0)], .agg [.lit (.int .u8 0), .lit (.int .u8 0)], .agg [.lit (.int .u8 0), .lit (.int .u8 0)], .agg [.lit (.int .u8 0), .lit (.int .u8 0)], .agg [.lit (.int .u8 0), .lit (.int .u8 0)], .agg [.lit (.int .u8 0), .lit (.int .u8 0)], .agg [.lit (.int .u8 0), .lit (.int .u8 0)]]
def laid_strconv_ErrRange {H : Type} : DataW H := .iface "*errors.errorString" (.ptr (.agg [.lit (.string [118, 97, 108, 117, 101, 32, 111, 117, 116, 32, 111, 102, 32, 114, 97, 110, 103, 101])]))
def laid_strconv_ErrSyntax {H : Type} : DataW H := .iface "*errors.errorString" (.ptr (.agg [.lit (.string [105, 110, 118, 97, 108, 105, 100, 32, 115, 121, 110, 116, 97, 120])]))
/-- One of Go's own tables, pinned by name: the form's constant. -/
def laid_unicode_utf8_first : DataW Unit := Go.Pinned.utf8First

/-- 'lacquerlaw07.JoinShifted': WHATEVER THE INPUT: true; the input reads as it did. -/
def joinShiftedSpec : ChangeSpec := { name := "joinShifted", fn := fun _ => fun
  | [d1, d2, d3] => { results := [.lit (.bool true)], args := [d1, d2, d3] }
  | _ => none }
def joinShiftedRow : OpenClaim := { program := "ytabmhfmglhjmjaagreatdoor", sum := "e9ffd8587ead6eeefb6138af9e90d129843b29464c34b7a20b462fe6df576437", func := "lacquer/lacquerlaw07.JoinShifted", spec := "joinShifted", inPlace := ["internal/abi.NoEscape", "internal/bytealg.MakeNoZero"], unfollowed := true, recurses := true, named := ["internal/strconv.uint64pow10", "math/bits.deBruijn32tab", "math/bits.deBruijn64tab"], apart := false, laid := [("math/bits.deBruijn32tab", laid_math_bits_deBruijn32tab), ("math/bits.deBruijn64tab", laid_math_bits_deBruijn64tab), ("internal/strconv.uint64pow10", laid_internal_strconv_uint64pow10)] }
def JoinShiftedSaid : Prop := joinShiftedRow.holds Tryz.pinned (OpenSpec.ofChange joinShiftedSpec)

/-- ITS FALSE NEIGHBOUR: 'it returns false'. Refute it at one input. -/
def joinShiftedWrong : ChangeSpec := { name := "joinShifted", fn := fun _ => fun
  | [d1, d2, d3] => { results := [.lit (.bool false)], args := [d1, d2, d3] }
  | _ => none }
def JoinShiftedWrongFalsely : Prop := joinShiftedRow.holds Tryz.pinned (OpenSpec.ofChange joinShiftedWrong)

/-- 'lacquerlaw07.JoinBest': WHATEVER THE INPUT: true; the input reads as it did. -/
def joinBestSpec : ChangeSpec := { name := "joinBest", fn := fun _ => fun
  | [d] => { results := [.lit (.bool true)], args := [d] }
  | _ => none }
def joinBestRow : OpenClaim := { program := "ytabmhfmglhjmjaagreatdoor", sum := "e9ffd8587ead6eeefb6138af9e90d129843b29464c34b7a20b462fe6df576437", func := "lacquer/lacquerlaw07.JoinBest", spec := "joinBest", inPlace := ["internal/abi.NoEscape", "internal/bytealg.MakeNoZero"], unfollowed := true, recurses := true, named := ["internal/strconv.uint64pow10", "math/bits.deBruijn32tab", "math/bits.deBruijn64tab"], apart := false, laid := [("math/bits.deBruijn32tab", laid_math_bits_deBruijn32tab), ("math/bits.deBruijn64tab", laid_math_bits_deBruijn64tab), ("internal/strconv.uint64pow10", laid_internal_strconv_uint64pow10)] }
def JoinBestSaid : Prop := joinBestRow.holds Tryz.pinned (OpenSpec.ofChange joinBestSpec)

/-- ITS FALSE NEIGHBOUR: 'it returns false'. Refute it at one input. -/
def joinBestWrong : ChangeSpec := { name := "joinBest", fn := fun _ => fun
  | [d] => { results := [.lit (.bool false)], args := [d] }
  | _ => none }
def JoinBestWrongFalsely : Prop := joinBestRow.holds Tryz.pinned (OpenSpec.ofChange joinBestWrong)

/-- 'lacquerlaw07.JoinCorrelations': WHATEVER THE INPUT: true; the input reads as it did. -/
def joinCorrelationsSpec : ChangeSpec := { name := "joinCorrelations", fn := fun _ => fun
  | [d1, d2, d3] => { results := [.lit (.bool true)], args := [d1, d2, d3] }
  | _ => none }
def joinCorrelationsRow : OpenClaim := { program := "ytabmhfmglhjmjaagreatdoor", sum := "e9ffd8587ead6eeefb6138af9e90d129843b29464c34b7a20b462fe6df576437", func := "lacquer/lacquerlaw07.JoinCorrelations", spec := "joinCorrelations", inPlace := ["internal/abi.NoEscape", "internal/bytealg.MakeNoZero"], unfollowed := true, recurses := true, named := ["internal/strconv.uint64pow10", "math/bits.deBruijn32tab", "math/bits.deBruijn64tab"], apart := false, laid := [("math/bits.deBruijn32tab", laid_math_bits_deBruijn32tab), ("math/bits.deBruijn64tab", laid_math_bits_deBruijn64tab), ("internal/strconv.uint64pow10", laid_internal_strconv_uint64pow10)] }
def JoinCorrelationsSaid : Prop := joinCorrelationsRow.holds Tryz.pinned (OpenSpec.ofChange joinCorrelationsSpec)

/-- ITS FALSE NEIGHBOUR: 'it returns false'. Refute it at one input. -/
def joinCorrelationsWrong : ChangeSpec := { name := "joinCorrelations", fn := fun _ => fun
  | [d1, d2, d3] => { results := [.lit (.bool false)], args := [d1, d2, d3] }
  | _ => none }
def JoinCorrelationsWrongFalsely : Prop := joinCorrelationsRow.holds Tryz.pinned (OpenSpec.ofChange joinCorrelationsWrong)

/-- 'lacquerlaw07.JoinTasks': WHATEVER THE INPUT: true; the input reads as it did. -/
def joinTasksSpec : ChangeSpec := { name := "joinTasks", fn := fun _ => fun
  | [d1, d2] => { results := [.lit (.bool true)], args := [d1, d2] }
  | _ => none }
def joinTasksRow : OpenClaim := { program := "ytabmhfmglhjmjaagreatdoor", sum := "e9ffd8587ead6eeefb6138af9e90d129843b29464c34b7a20b462fe6df576437", func := "lacquer/lacquerlaw07.JoinTasks", spec := "joinTasks", inPlace := ["internal/abi.NoEscape", "internal/bytealg.MakeNoZero"], unfollowed := true, recurses := true, named := ["internal/strconv.uint64pow10", "math/bits.deBruijn32tab", "math/bits.deBruijn64tab"], apart := false, laid := [("math/bits.deBruijn32tab", laid_math_bits_deBruijn32tab), ("math/bits.deBruijn64tab", laid_math_bits_deBruijn64tab), ("internal/strconv.uint64pow10", laid_internal_strconv_uint64pow10)] }
def JoinTasksSaid : Prop := joinTasksRow.holds Tryz.pinned (OpenSpec.ofChange joinTasksSpec)

/-- ITS FALSE NEIGHBOUR: 'it returns false'. Refute it at one input. -/
def joinTasksWrong : ChangeSpec := { name := "joinTasks", fn := fun _ => fun
  | [d1, d2] => { results := [.lit (.bool false)], args := [d1, d2] }
  | _ => none }
def JoinTasksWrongFalsely : Prop := joinTasksRow.holds Tryz.pinned (OpenSpec.ofChange joinTasksWrong)

/-- 'lacquerlaw07.JoinLandmarks': WHATEVER THE INPUT: true; the input reads as it did. -/
def joinLandmarksSpec : ChangeSpec := { name := "joinLandmarks", fn := fun _ => fun
  | [d] => { results := [.lit (.bool true)], args := [d] }
  | _ => none }
def joinLandmarksRow : OpenClaim := { program := "ytabmhfmglhjmjaagreatdoor", sum := "e9ffd8587ead6eeefb6138af9e90d129843b29464c34b7a20b462fe6df576437", func := "lacquer/lacquerlaw07.JoinLandmarks", spec := "joinLandmarks", inPlace := ["internal/abi.NoEscape", "internal/bytealg.MakeNoZero"], unfollowed := true, recurses := true, named := ["internal/strconv.uint64pow10", "math/bits.deBruijn32tab", "math/bits.deBruijn64tab"], apart := false, laid := [("math/bits.deBruijn32tab", laid_math_bits_deBruijn32tab), ("math/bits.deBruijn64tab", laid_math_bits_deBruijn64tab), ("internal/strconv.uint64pow10", laid_internal_strconv_uint64pow10)] }
def JoinLandmarksSaid : Prop := joinLandmarksRow.holds Tryz.pinned (OpenSpec.ofChange joinLandmarksSpec)

/-- ITS FALSE NEIGHBOUR: 'it returns false'. Refute it at one input. -/
def joinLandmarksWrong : ChangeSpec := { name := "joinLandmarks", fn := fun _ => fun
  | [d] => { results := [.lit (.bool false)], args := [d] }
  | _ => none }
def JoinLandmarksWrongFalsely : Prop := joinLandmarksRow.holds Tryz.pinned (OpenSpec.ofChange joinLandmarksWrong)

/-- 'lacquerlaw07.JoinAgreed': WHATEVER THE INPUT: true; the input reads as it did. -/
def joinAgreedSpec : ChangeSpec := { name := "joinAgreed", fn := fun _ => fun
  | [d1, d2] => { results := [.lit (.bool true)], args := [d1, d2] }
  | _ => none }
def joinAgreedRow : OpenClaim := { program := "ytabmhfmglhjmjaagreatdoor", sum := "e9ffd8587ead6eeefb6138af9e90d129843b29464c34b7a20b462fe6df576437", func := "lacquer/lacquerlaw07.JoinAgreed", spec := "joinAgreed", inPlace := ["internal/abi.NoEscape", "internal/bytealg.MakeNoZero"], unfollowed := true, recurses := true, named := ["internal/strconv.uint64pow10", "math/bits.deBruijn32tab", "math/bits.deBruijn64tab"], apart := false, laid := [("math/bits.deBruijn32tab", laid_math_bits_deBruijn32tab), ("math/bits.deBruijn64tab", laid_math_bits_deBruijn64tab), ("internal/strconv.uint64pow10", laid_internal_strconv_uint64pow10)] }
def JoinAgreedSaid : Prop := joinAgreedRow.holds Tryz.pinned (OpenSpec.ofChange joinAgreedSpec)

/-- ITS FALSE NEIGHBOUR: 'it returns false'. Refute it at one input. -/
def joinAgreedWrong : ChangeSpec := { name := "joinAgreed", fn := fun _ => fun
  | [d1, d2] => { results := [.lit (.bool false)], args := [d1, d2] }
  | _ => none }
def JoinAgreedWrongFalsely : Prop := joinAgreedRow.holds Tryz.pinned (OpenSpec.ofChange joinAgreedWrong)

/-- 'lacquerlaw07.JoinTransfers': WHATEVER THE INPUT: true; the input reads as it did. -/
def joinTransfersSpec : ChangeSpec := { name := "joinTransfers", fn := fun _ => fun
  | [d1, d2, d3] => { results := [.lit (.bool true)], args := [d1, d2, d3] }
  | _ => none }
def joinTransfersRow : OpenClaim := { program := "ytabmhfmglhjmjaagreatdoor", sum := "e9ffd8587ead6eeefb6138af9e90d129843b29464c34b7a20b462fe6df576437", func := "lacquer/lacquerlaw07.JoinTransfers", spec := "joinTransfers", inPlace := ["internal/abi.NoEscape", "internal/bytealg.MakeNoZero"], unfollowed := true, recurses := true, named := ["internal/strconv.uint64pow10", "math/bits.deBruijn32tab", "math/bits.deBruijn64tab"], apart := false, laid := [("math/bits.deBruijn32tab", laid_math_bits_deBruijn32tab), ("math/bits.deBruijn64tab", laid_math_bits_deBruijn64tab), ("internal/strconv.uint64pow10", laid_internal_strconv_uint64pow10)] }
def JoinTransfersSaid : Prop := joinTransfersRow.holds Tryz.pinned (OpenSpec.ofChange joinTransfersSpec)

/-- ITS FALSE NEIGHBOUR: 'it returns false'. Refute it at one input. -/
def joinTransfersWrong : ChangeSpec := { name := "joinTransfers", fn := fun _ => fun
  | [d1, d2, d3] => { results := [.lit (.bool false)], args := [d1, d2, d3] }
  | _ => none }
def JoinTransfersWrongFalsely : Prop := joinTransfersRow.holds Tryz.pinned (OpenSpec.ofChange joinTransfersWrong)

/-- 'lacquerlaw07.JoinVoted': WHATEVER THE INPUT: true; the input reads as it did. -/
def joinVotedSpec : ChangeSpec := { name := "joinVoted", fn := fun _ => fun
  | [d1, d2, d3] => { results := [.lit (.bool true)], args := [d1, d2, d3] }
  | _ => none }
def joinVotedRow : OpenClaim := { program := "ytabmhfmglhjmjaagreatdoor", sum := "e9ffd8587ead6eeefb6138af9e90d129843b29464c34b7a20b462fe6df576437", func := "lacquer/lacquerlaw07.JoinVoted", spec := "joinVoted", inPlace := ["internal/abi.NoEscape", "internal/bytealg.MakeNoZero"], unfollowed := true, recurses := true, named := ["internal/strconv.uint64pow10", "math/bits.deBruijn32tab", "math/bits.deBruijn64tab"], apart := false, laid := [("math/bits.deBruijn32tab", laid_math_bits_deBruijn32tab), ("math/bits.deBruijn64tab", laid_math_bits_deBruijn64tab), ("internal/strconv.uint64pow10", laid_internal_strconv_uint64pow10)] }
def JoinVotedSaid : Prop := joinVotedRow.holds Tryz.pinned (OpenSpec.ofChange joinVotedSpec)

/-- ITS FALSE NEIGHBOUR: 'it returns false'. Refute it at one input. -/
def joinVotedWrong : ChangeSpec := { name := "joinVoted", fn := fun _ => fun
  | [d1, d2, d3] => { results := [.lit (.bool false)], args := [d1, d2, d3] }
  | _ => none }
def JoinVotedWrongFalsely : Prop := joinVotedRow.holds Tryz.pinned (OpenSpec.ofChange joinVotedWrong)

/-- 'lacquertop.TopJoinRestored': WHATEVER THE INPUT: true; the input reads as it did. -/
def topJoinRestoredSpec : ChangeSpec := { name := "topJoinRestored", fn := fun _ => fun
  | [d] => { results := [.lit (.bool true)], args := [d] }
  | _ => none }
def topJoinRestoredRow : OpenClaim := { program := "ytabmhfmglhjmjaagreatdoor", sum := "e9ffd8587ead6eeefb6138af9e90d129843b29464c34b7a20b462fe6df576437", func := "lacquer/lacquertop.TopJoinRestored", spec := "topJoinRestored", inPlace := ["internal/abi.NoEscape", "internal/bytealg.MakeNoZero", "internal/bytealg.CountString", "internal/bytealg.IndexByteString", "internal/bytealg.IndexString"], unfollowed := true, recurses := true, named := ["internal/strconv.uint64pow10", "math/bits.deBruijn32tab", "math/bits.deBruijn64tab", "unicode/utf8.first", "unicode/utf8.acceptRanges", "internal/bytealg.MaxLen", "strconv.ErrSyntax", "strconv.ErrRange"], apart := false, laid := [("math/bits.deBruijn32tab", laid_math_bits_deBruijn32tab), ("math/bits.deBruijn64tab", laid_math_bits_deBruijn64tab), ("internal/strconv.uint64pow10", laid_internal_strconv_uint64pow10), ("unicode/utf8.acceptRanges", laid_unicode_utf8_acceptRanges), ("strconv.ErrRange", laid_strconv_ErrRange), ("strconv.ErrSyntax", laid_strconv_ErrSyntax), ("unicode/utf8.first", laid_unicode_utf8_first)] }
def TopJoinRestoredSaid : Prop := topJoinRestoredRow.holds Tryz.pinned (OpenSpec.ofChange topJoinRestoredSpec)

/-- ITS FALSE NEIGHBOUR: 'it returns false'. Refute it at one input. -/
def topJoinRestoredWrong : ChangeSpec := { name := "topJoinRestored", fn := fun _ => fun
  | [d] => { results := [.lit (.bool false)], args := [d] }
  | _ => none }
def TopJoinRestoredWrongFalsely : Prop := topJoinRestoredRow.holds Tryz.pinned (OpenSpec.ofChange topJoinRestoredWrong)

/-- 'lacquerlaw07.JoinPrices': WHATEVER THE INPUT: true; the input reads as it did. -/
def joinPricesSpec : ChangeSpec := { name := "joinPrices", fn := fun _ => fun
  | [d1, d2, d3] => { results := [.lit (.bool true)], args := [d1, d2, d3] }
  | _ => none }
def joinPricesRow : OpenClaim := { program := "ytabmhfmglhjmjaagreatdoor", sum := "e9ffd8587ead6eeefb6138af9e90d129843b29464c34b7a20b462fe6df576437", func := "lacquer/lacquerlaw07.JoinPrices", spec := "joinPrices", inPlace := ["internal/abi.NoEscape", "internal/bytealg.MakeNoZero"], unfollowed := true, recurses := true, named := ["internal/strconv.uint64pow10", "math/bits.deBruijn32tab", "math/bits.deBruijn64tab"], apart := false, laid := [("math/bits.deBruijn32tab", laid_math_bits_deBruijn32tab), ("math/bits.deBruijn64tab", laid_math_bits_deBruijn64tab), ("internal/strconv.uint64pow10", laid_internal_strconv_uint64pow10)] }
def JoinPricesSaid : Prop := joinPricesRow.holds Tryz.pinned (OpenSpec.ofChange joinPricesSpec)

/-- ITS FALSE NEIGHBOUR: 'it returns false'. Refute it at one input. -/
def joinPricesWrong : ChangeSpec := { name := "joinPrices", fn := fun _ => fun
  | [d1, d2, d3] => { results := [.lit (.bool false)], args := [d1, d2, d3] }
  | _ => none }
def JoinPricesWrongFalsely : Prop := joinPricesRow.holds Tryz.pinned (OpenSpec.ofChange joinPricesWrong)

/-- 'lacquerlaw07.JoinPlans': WHATEVER THE INPUT: true; the input reads as it did. -/
def joinPlansSpec : ChangeSpec := { name := "joinPlans", fn := fun _ => fun
  | [d1, d2, d3] => { results := [.lit (.bool true)], args := [d1, d2, d3] }
  | _ => none }
def joinPlansRow : OpenClaim := { program := "ytabmhfmglhjmjaagreatdoor", sum := "e9ffd8587ead6eeefb6138af9e90d129843b29464c34b7a20b462fe6df576437", func := "lacquer/lacquerlaw07.JoinPlans", spec := "joinPlans", inPlace := ["internal/abi.NoEscape", "internal/bytealg.MakeNoZero"], unfollowed := true, recurses := true, named := ["internal/strconv.uint64pow10", "math/bits.deBruijn32tab", "math/bits.deBruijn64tab"], apart := false, laid := [("math/bits.deBruijn32tab", laid_math_bits_deBruijn32tab), ("math/bits.deBruijn64tab", laid_math_bits_deBruijn64tab), ("internal/strconv.uint64pow10", laid_internal_strconv_uint64pow10)] }
def JoinPlansSaid : Prop := joinPlansRow.holds Tryz.pinned (OpenSpec.ofChange joinPlansSpec)

/-- ITS FALSE NEIGHBOUR: 'it returns false'. Refute it at one input. -/
def joinPlansWrong : ChangeSpec := { name := "joinPlans", fn := fun _ => fun
  | [d1, d2, d3] => { results := [.lit (.bool false)], args := [d1, d2, d3] }
  | _ => none }
def JoinPlansWrongFalsely : Prop := joinPlansRow.holds Tryz.pinned (OpenSpec.ofChange joinPlansWrong)

/-- 'lacquerlaw07.JoinProved': WHATEVER THE INPUT: true; the input reads as it did. -/
def joinProvedSpec : ChangeSpec := { name := "joinProved", fn := fun _ => fun
  | [d1, d2] => { results := [.lit (.bool true)], args := [d1, d2] }
  | _ => none }
def joinProvedRow : OpenClaim := { program := "ytabmhfmglhjmjaagreatdoor", sum := "e9ffd8587ead6eeefb6138af9e90d129843b29464c34b7a20b462fe6df576437", func := "lacquer/lacquerlaw07.JoinProved", spec := "joinProved", inPlace := ["internal/abi.NoEscape", "internal/bytealg.MakeNoZero"], unfollowed := true, recurses := true, named := ["internal/strconv.uint64pow10", "math/bits.deBruijn32tab", "math/bits.deBruijn64tab"], apart := false, laid := [("math/bits.deBruijn32tab", laid_math_bits_deBruijn32tab), ("math/bits.deBruijn64tab", laid_math_bits_deBruijn64tab), ("internal/strconv.uint64pow10", laid_internal_strconv_uint64pow10)] }
def JoinProvedSaid : Prop := joinProvedRow.holds Tryz.pinned (OpenSpec.ofChange joinProvedSpec)

/-- ITS FALSE NEIGHBOUR: 'it returns false'. Refute it at one input. -/
def joinProvedWrong : ChangeSpec := { name := "joinProved", fn := fun _ => fun
  | [d1, d2] => { results := [.lit (.bool false)], args := [d1, d2] }
  | _ => none }
def JoinProvedWrongFalsely : Prop := joinProvedRow.holds Tryz.pinned (OpenSpec.ofChange joinProvedWrong)

/-- 'lacquerlaw07.JoinAnyOrder': WHATEVER THE INPUT: true; the input reads as it did. -/
def joinAnyOrderSpec : ChangeSpec := { name := "joinAnyOrder", fn := fun _ => fun
  | [d1, d2, d3] => { results := [.lit (.bool true)], args := [d1, d2, d3] }
  | _ => none }
def joinAnyOrderRow : OpenClaim := { program := "ytabmhfmglhjmjaagreatdoor", sum := "e9ffd8587ead6eeefb6138af9e90d129843b29464c34b7a20b462fe6df576437", func := "lacquer/lacquerlaw07.JoinAnyOrder", spec := "joinAnyOrder", inPlace := ["internal/abi.NoEscape", "internal/bytealg.MakeNoZero"], unfollowed := true, recurses := true, named := ["internal/strconv.uint64pow10", "math/bits.deBruijn32tab", "math/bits.deBruijn64tab"], apart := false, laid := [("math/bits.deBruijn32tab", laid_math_bits_deBruijn32tab), ("math/bits.deBruijn64tab", laid_math_bits_deBruijn64tab), ("internal/strconv.uint64pow10", laid_internal_strconv_uint64pow10)] }
def JoinAnyOrderSaid : Prop := joinAnyOrderRow.holds Tryz.pinned (OpenSpec.ofChange joinAnyOrderSpec)

/-- ITS FALSE NEIGHBOUR: 'it returns false'. Refute it at one input. -/
def joinAnyOrderWrong : ChangeSpec := { name := "joinAnyOrder", fn := fun _ => fun
  | [d1, d2, d3] => { results := [.lit (.bool false)], args := [d1, d2, d3] }
  | _ => none }
def JoinAnyOrderWrongFalsely : Prop := joinAnyOrderRow.holds Tryz.pinned (OpenSpec.ofChange joinAnyOrderWrong)

/-- 'lacquerlaw07.JoinStrings': WHATEVER THE INPUT: true; the input reads as it did. -/
def joinStringsSpec : ChangeSpec := { name := "joinStrings", fn := fun _ => fun
  | [d1, d2] => { results := [.lit (.bool true)], args := [d1, d2] }
  | _ => none }
def joinStringsRow : OpenClaim := { program := "ytabmhfmglhjmjaagreatdoor", sum := "e9ffd8587ead6eeefb6138af9e90d129843b29464c34b7a20b462fe6df576437", func := "lacquer/lacquerlaw07.JoinStrings", spec := "joinStrings", inPlace := ["internal/abi.NoEscape", "internal/bytealg.MakeNoZero", "internal/bytealg.CountString", "internal/bytealg.IndexByteString", "internal/bytealg.IndexString"], unfollowed := true, recurses := true, named := ["internal/strconv.uint64pow10", "math/bits.deBruijn32tab", "math/bits.deBruijn64tab", "unicode/utf8.first", "unicode/utf8.acceptRanges", "internal/bytealg.MaxLen", "strconv.ErrSyntax", "strconv.ErrRange"], apart := false, laid := [("math/bits.deBruijn32tab", laid_math_bits_deBruijn32tab), ("math/bits.deBruijn64tab", laid_math_bits_deBruijn64tab), ("internal/strconv.uint64pow10", laid_internal_strconv_uint64pow10), ("unicode/utf8.acceptRanges", laid_unicode_utf8_acceptRanges), ("strconv.ErrRange", laid_strconv_ErrRange), ("strconv.ErrSyntax", laid_strconv_ErrSyntax), ("unicode/utf8.first", laid_unicode_utf8_first)] }
def JoinStringsSaid : Prop := joinStringsRow.holds Tryz.pinned (OpenSpec.ofChange joinStringsSpec)

/-- ITS FALSE NEIGHBOUR: 'it returns false'. Refute it at one input. -/
def joinStringsWrong : ChangeSpec := { name := "joinStrings", fn := fun _ => fun
  | [d1, d2] => { results := [.lit (.bool false)], args := [d1, d2] }
  | _ => none }
def JoinStringsWrongFalsely : Prop := joinStringsRow.holds Tryz.pinned (OpenSpec.ofChange joinStringsWrong)

/- THE SECOND FORM. 'bulk': how many values and letters a reading holds, each counted each time it is reached (what is shared counts as often as it is met; a slice's spare places count too). A statement '..UptoSaid' is the law's where the arguments, and the package variables that the reading takes, are together of bulk at most 1048576: NARROWER than '..Said'. Prove '..Said' where nothing that the law and all that it calls make is longer than what came in: it says more and counts as full. Else prove '..UptoSaid'. A law counts once. -/
mutual
def uptoBulk {H : Type} : DataW H → Nat
  | .lit (.string bytes) => bytes.length + 1
  | .lit _ => 1
  | .nil => 1
  | .ptr d => uptoBulk d + 1
  | .slice elems spare => uptoBulkAll elems + uptoBulkAll spare + 1
  | .agg parts => uptoBulkAll parts + 1
  | .iface _ d => uptoBulk d + 1
  | .map entries => uptoBulkEntries entries + 1
  | .held _ => 1
def uptoBulkAll {H : Type} : List (DataW H) → Nat
  | [] => 0
  | d :: r => uptoBulk d + uptoBulkAll r
def uptoBulkEntries {H : Type} : List (Lit × DataW H) → Nat
  | [] => 0
  | x :: r => uptoBulkEntry x + uptoBulkEntries r
def uptoBulkEntry {H : Type} : Lit × DataW H → Nat
  | (.string bytes, d) => bytes.length + uptoBulk d + 1
  | (_, d) => uptoBulk d + 1
 end
def uptoSmall : (H : Type) → List (DataW H) → Bool := fun _ ds => decide (uptoBulkAll ds ≤ 1048576)
def OpenSpec.upto (s : _root_.Go.ChangeSpec) : _root_.Go.OpenSpec := { _root_.Go.OpenSpec.ofChange s with cond := some uptoSmall }

/-- 'lacquerlaw07.JoinShifted', WHERE WHAT IT READS IS OF BULK AT MOST 1048576: true; the input reads as it did. -/
def joinShiftedUptoRow : OpenClaim := { program := "ytabmhfmglhjmjaagreatdoor", sum := "e9ffd8587ead6eeefb6138af9e90d129843b29464c34b7a20b462fe6df576437", func := "lacquer/lacquerlaw07.JoinShifted", spec := "joinShifted", inPlace := ["internal/abi.NoEscape", "internal/bytealg.MakeNoZero"], unfollowed := true, recurses := true, named := ["internal/strconv.uint64pow10", "math/bits.deBruijn32tab", "math/bits.deBruijn64tab"], apart := false, laid := [("math/bits.deBruijn32tab", laid_math_bits_deBruijn32tab), ("math/bits.deBruijn64tab", laid_math_bits_deBruijn64tab), ("internal/strconv.uint64pow10", laid_internal_strconv_uint64pow10)], narrowed := true }
def JoinShiftedUptoSaid : Prop := joinShiftedUptoRow.holds Tryz.pinned (OpenSpec.upto joinShiftedSpec)

/-- 'lacquerlaw07.JoinBest', WHERE WHAT IT READS IS OF BULK AT MOST 1048576: true; the input reads as it did. -/
def joinBestUptoRow : OpenClaim := { program := "ytabmhfmglhjmjaagreatdoor", sum := "e9ffd8587ead6eeefb6138af9e90d129843b29464c34b7a20b462fe6df576437", func := "lacquer/lacquerlaw07.JoinBest", spec := "joinBest", inPlace := ["internal/abi.NoEscape", "internal/bytealg.MakeNoZero"], unfollowed := true, recurses := true, named := ["internal/strconv.uint64pow10", "math/bits.deBruijn32tab", "math/bits.deBruijn64tab"], apart := false, laid := [("math/bits.deBruijn32tab", laid_math_bits_deBruijn32tab), ("math/bits.deBruijn64tab", laid_math_bits_deBruijn64tab), ("internal/strconv.uint64pow10", laid_internal_strconv_uint64pow10)], narrowed := true }
def JoinBestUptoSaid : Prop := joinBestUptoRow.holds Tryz.pinned (OpenSpec.upto joinBestSpec)

/-- 'lacquerlaw07.JoinCorrelations', WHERE WHAT IT READS IS OF BULK AT MOST 1048576: true; the input reads as it did. -/
def joinCorrelationsUptoRow : OpenClaim := { program := "ytabmhfmglhjmjaagreatdoor", sum := "e9ffd8587ead6eeefb6138af9e90d129843b29464c34b7a20b462fe6df576437", func := "lacquer/lacquerlaw07.JoinCorrelations", spec := "joinCorrelations", inPlace := ["internal/abi.NoEscape", "internal/bytealg.MakeNoZero"], unfollowed := true, recurses := true, named := ["internal/strconv.uint64pow10", "math/bits.deBruijn32tab", "math/bits.deBruijn64tab"], apart := false, laid := [("math/bits.deBruijn32tab", laid_math_bits_deBruijn32tab), ("math/bits.deBruijn64tab", laid_math_bits_deBruijn64tab), ("internal/strconv.uint64pow10", laid_internal_strconv_uint64pow10)], narrowed := true }
def JoinCorrelationsUptoSaid : Prop := joinCorrelationsUptoRow.holds Tryz.pinned (OpenSpec.upto joinCorrelationsSpec)

/-- 'lacquerlaw07.JoinTasks', WHERE WHAT IT READS IS OF BULK AT MOST 1048576: true; the input reads as it did. -/
def joinTasksUptoRow : OpenClaim := { program := "ytabmhfmglhjmjaagreatdoor", sum := "e9ffd8587ead6eeefb6138af9e90d129843b29464c34b7a20b462fe6df576437", func := "lacquer/lacquerlaw07.JoinTasks", spec := "joinTasks", inPlace := ["internal/abi.NoEscape", "internal/bytealg.MakeNoZero"], unfollowed := true, recurses := true, named := ["internal/strconv.uint64pow10", "math/bits.deBruijn32tab", "math/bits.deBruijn64tab"], apart := false, laid := [("math/bits.deBruijn32tab", laid_math_bits_deBruijn32tab), ("math/bits.deBruijn64tab", laid_math_bits_deBruijn64tab), ("internal/strconv.uint64pow10", laid_internal_strconv_uint64pow10)], narrowed := true }
def JoinTasksUptoSaid : Prop := joinTasksUptoRow.holds Tryz.pinned (OpenSpec.upto joinTasksSpec)

/-- 'lacquerlaw07.JoinLandmarks', WHERE WHAT IT READS IS OF BULK AT MOST 1048576: true; the input reads as it did. -/
def joinLandmarksUptoRow : OpenClaim := { program := "ytabmhfmglhjmjaagreatdoor", sum := "e9ffd8587ead6eeefb6138af9e90d129843b29464c34b7a20b462fe6df576437", func := "lacquer/lacquerlaw07.JoinLandmarks", spec := "joinLandmarks", inPlace := ["internal/abi.NoEscape", "internal/bytealg.MakeNoZero"], unfollowed := true, recurses := true, named := ["internal/strconv.uint64pow10", "math/bits.deBruijn32tab", "math/bits.deBruijn64tab"], apart := false, laid := [("math/bits.deBruijn32tab", laid_math_bits_deBruijn32tab), ("math/bits.deBruijn64tab", laid_math_bits_deBruijn64tab), ("internal/strconv.uint64pow10", laid_internal_strconv_uint64pow10)], narrowed := true }
def JoinLandmarksUptoSaid : Prop := joinLandmarksUptoRow.holds Tryz.pinned (OpenSpec.upto joinLandmarksSpec)

/-- 'lacquerlaw07.JoinAgreed', WHERE WHAT IT READS IS OF BULK AT MOST 1048576: true; the input reads as it did. -/
def joinAgreedUptoRow : OpenClaim := { program := "ytabmhfmglhjmjaagreatdoor", sum := "e9ffd8587ead6eeefb6138af9e90d129843b29464c34b7a20b462fe6df576437", func := "lacquer/lacquerlaw07.JoinAgreed", spec := "joinAgreed", inPlace := ["internal/abi.NoEscape", "internal/bytealg.MakeNoZero"], unfollowed := true, recurses := true, named := ["internal/strconv.uint64pow10", "math/bits.deBruijn32tab", "math/bits.deBruijn64tab"], apart := false, laid := [("math/bits.deBruijn32tab", laid_math_bits_deBruijn32tab), ("math/bits.deBruijn64tab", laid_math_bits_deBruijn64tab), ("internal/strconv.uint64pow10", laid_internal_strconv_uint64pow10)], narrowed := true }
def JoinAgreedUptoSaid : Prop := joinAgreedUptoRow.holds Tryz.pinned (OpenSpec.upto joinAgreedSpec)

/-- 'lacquerlaw07.JoinTransfers', WHERE WHAT IT READS IS OF BULK AT MOST 1048576: true; the input reads as it did. -/
def joinTransfersUptoRow : OpenClaim := { program := "ytabmhfmglhjmjaagreatdoor", sum := "e9ffd8587ead6eeefb6138af9e90d129843b29464c34b7a20b462fe6df576437", func := "lacquer/lacquerlaw07.JoinTransfers", spec := "joinTransfers", inPlace := ["internal/abi.NoEscape", "internal/bytealg.MakeNoZero"], unfollowed := true, recurses := true, named := ["internal/strconv.uint64pow10", "math/bits.deBruijn32tab", "math/bits.deBruijn64tab"], apart := false, laid := [("math/bits.deBruijn32tab", laid_math_bits_deBruijn32tab), ("math/bits.deBruijn64tab", laid_math_bits_deBruijn64tab), ("internal/strconv.uint64pow10", laid_internal_strconv_uint64pow10)], narrowed := true }
def JoinTransfersUptoSaid : Prop := joinTransfersUptoRow.holds Tryz.pinned (OpenSpec.upto joinTransfersSpec)

/-- 'lacquerlaw07.JoinVoted', WHERE WHAT IT READS IS OF BULK AT MOST 1048576: true; the input reads as it did. -/
def joinVotedUptoRow : OpenClaim := { program := "ytabmhfmglhjmjaagreatdoor", sum := "e9ffd8587ead6eeefb6138af9e90d129843b29464c34b7a20b462fe6df576437", func := "lacquer/lacquerlaw07.JoinVoted", spec := "joinVoted", inPlace := ["internal/abi.NoEscape", "internal/bytealg.MakeNoZero"], unfollowed := true, recurses := true, named := ["internal/strconv.uint64pow10", "math/bits.deBruijn32tab", "math/bits.deBruijn64tab"], apart := false, laid := [("math/bits.deBruijn32tab", laid_math_bits_deBruijn32tab), ("math/bits.deBruijn64tab", laid_math_bits_deBruijn64tab), ("internal/strconv.uint64pow10", laid_internal_strconv_uint64pow10)], narrowed := true }
def JoinVotedUptoSaid : Prop := joinVotedUptoRow.holds Tryz.pinned (OpenSpec.upto joinVotedSpec)

/-- 'lacquertop.TopJoinRestored', WHERE WHAT IT READS IS OF BULK AT MOST 1048576: true; the input reads as it did. -/
def topJoinRestoredUptoRow : OpenClaim := { program := "ytabmhfmglhjmjaagreatdoor", sum := "e9ffd8587ead6eeefb6138af9e90d129843b29464c34b7a20b462fe6df576437", func := "lacquer/lacquertop.TopJoinRestored", spec := "topJoinRestored", inPlace := ["internal/abi.NoEscape", "internal/bytealg.MakeNoZero", "internal/bytealg.CountString", "internal/bytealg.IndexByteString", "internal/bytealg.IndexString"], unfollowed := true, recurses := true, named := ["internal/strconv.uint64pow10", "math/bits.deBruijn32tab", "math/bits.deBruijn64tab", "unicode/utf8.first", "unicode/utf8.acceptRanges", "internal/bytealg.MaxLen", "strconv.ErrSyntax", "strconv.ErrRange"], apart := false, laid := [("math/bits.deBruijn32tab", laid_math_bits_deBruijn32tab), ("math/bits.deBruijn64tab", laid_math_bits_deBruijn64tab), ("internal/strconv.uint64pow10", laid_internal_strconv_uint64pow10), ("unicode/utf8.acceptRanges", laid_unicode_utf8_acceptRanges), ("strconv.ErrRange", laid_strconv_ErrRange), ("strconv.ErrSyntax", laid_strconv_ErrSyntax), ("unicode/utf8.first", laid_unicode_utf8_first)], narrowed := true }
def TopJoinRestoredUptoSaid : Prop := topJoinRestoredUptoRow.holds Tryz.pinned (OpenSpec.upto topJoinRestoredSpec)

/-- 'lacquerlaw07.JoinPrices', WHERE WHAT IT READS IS OF BULK AT MOST 1048576: true; the input reads as it did. -/
def joinPricesUptoRow : OpenClaim := { program := "ytabmhfmglhjmjaagreatdoor", sum := "e9ffd8587ead6eeefb6138af9e90d129843b29464c34b7a20b462fe6df576437", func := "lacquer/lacquerlaw07.JoinPrices", spec := "joinPrices", inPlace := ["internal/abi.NoEscape", "internal/bytealg.MakeNoZero"], unfollowed := true, recurses := true, named := ["internal/strconv.uint64pow10", "math/bits.deBruijn32tab", "math/bits.deBruijn64tab"], apart := false, laid := [("math/bits.deBruijn32tab", laid_math_bits_deBruijn32tab), ("math/bits.deBruijn64tab", laid_math_bits_deBruijn64tab), ("internal/strconv.uint64pow10", laid_internal_strconv_uint64pow10)], narrowed := true }
def JoinPricesUptoSaid : Prop := joinPricesUptoRow.holds Tryz.pinned (OpenSpec.upto joinPricesSpec)

/-- 'lacquerlaw07.JoinPlans', WHERE WHAT IT READS IS OF BULK AT MOST 1048576: true; the input reads as it did. -/
def joinPlansUptoRow : OpenClaim := { program := "ytabmhfmglhjmjaagreatdoor", sum := "e9ffd8587ead6eeefb6138af9e90d129843b29464c34b7a20b462fe6df576437", func := "lacquer/lacquerlaw07.JoinPlans", spec := "joinPlans", inPlace := ["internal/abi.NoEscape", "internal/bytealg.MakeNoZero"], unfollowed := true, recurses := true, named := ["internal/strconv.uint64pow10", "math/bits.deBruijn32tab", "math/bits.deBruijn64tab"], apart := false, laid := [("math/bits.deBruijn32tab", laid_math_bits_deBruijn32tab), ("math/bits.deBruijn64tab", laid_math_bits_deBruijn64tab), ("internal/strconv.uint64pow10", laid_internal_strconv_uint64pow10)], narrowed := true }
def JoinPlansUptoSaid : Prop := joinPlansUptoRow.holds Tryz.pinned (OpenSpec.upto joinPlansSpec)

/-- 'lacquerlaw07.JoinProved', WHERE WHAT IT READS IS OF BULK AT MOST 1048576: true; the input reads as it did. -/
def joinProvedUptoRow : OpenClaim := { program := "ytabmhfmglhjmjaagreatdoor", sum := "e9ffd8587ead6eeefb6138af9e90d129843b29464c34b7a20b462fe6df576437", func := "lacquer/lacquerlaw07.JoinProved", spec := "joinProved", inPlace := ["internal/abi.NoEscape", "internal/bytealg.MakeNoZero"], unfollowed := true, recurses := true, named := ["internal/strconv.uint64pow10", "math/bits.deBruijn32tab", "math/bits.deBruijn64tab"], apart := false, laid := [("math/bits.deBruijn32tab", laid_math_bits_deBruijn32tab), ("math/bits.deBruijn64tab", laid_math_bits_deBruijn64tab), ("internal/strconv.uint64pow10", laid_internal_strconv_uint64pow10)], narrowed := true }
def JoinProvedUptoSaid : Prop := joinProvedUptoRow.holds Tryz.pinned (OpenSpec.upto joinProvedSpec)

/-- 'lacquerlaw07.JoinAnyOrder', WHERE WHAT IT READS IS OF BULK AT MOST 1048576: true; the input reads as it did. -/
def joinAnyOrderUptoRow : OpenClaim := { program := "ytabmhfmglhjmjaagreatdoor", sum := "e9ffd8587ead6eeefb6138af9e90d129843b29464c34b7a20b462fe6df576437", func := "lacquer/lacquerlaw07.JoinAnyOrder", spec := "joinAnyOrder", inPlace := ["internal/abi.NoEscape", "internal/bytealg.MakeNoZero"], unfollowed := true, recurses := true, named := ["internal/strconv.uint64pow10", "math/bits.deBruijn32tab", "math/bits.deBruijn64tab"], apart := false, laid := [("math/bits.deBruijn32tab", laid_math_bits_deBruijn32tab), ("math/bits.deBruijn64tab", laid_math_bits_deBruijn64tab), ("internal/strconv.uint64pow10", laid_internal_strconv_uint64pow10)], narrowed := true }
def JoinAnyOrderUptoSaid : Prop := joinAnyOrderUptoRow.holds Tryz.pinned (OpenSpec.upto joinAnyOrderSpec)

/-- 'lacquerlaw07.JoinStrings', WHERE WHAT IT READS IS OF BULK AT MOST 1048576: true; the input reads as it did. -/
def joinStringsUptoRow : OpenClaim := { program := "ytabmhfmglhjmjaagreatdoor", sum := "e9ffd8587ead6eeefb6138af9e90d129843b29464c34b7a20b462fe6df576437", func := "lacquer/lacquerlaw07.JoinStrings", spec := "joinStrings", inPlace := ["internal/abi.NoEscape", "internal/bytealg.MakeNoZero", "internal/bytealg.CountString", "internal/bytealg.IndexByteString", "internal/bytealg.IndexString"], unfollowed := true, recurses := true, named := ["internal/strconv.uint64pow10", "math/bits.deBruijn32tab", "math/bits.deBruijn64tab", "unicode/utf8.first", "unicode/utf8.acceptRanges", "internal/bytealg.MaxLen", "strconv.ErrSyntax", "strconv.ErrRange"], apart := false, laid := [("math/bits.deBruijn32tab", laid_math_bits_deBruijn32tab), ("math/bits.deBruijn64tab", laid_math_bits_deBruijn64tab), ("internal/strconv.uint64pow10", laid_internal_strconv_uint64pow10), ("unicode/utf8.acceptRanges", laid_unicode_utf8_acceptRanges), ("strconv.ErrRange", laid_strconv_ErrRange), ("strconv.ErrSyntax", laid_strconv_ErrSyntax), ("unicode/utf8.first", laid_unicode_utf8_first)], narrowed := true }
def JoinStringsUptoSaid : Prop := joinStringsUptoRow.holds Tryz.pinned (OpenSpec.upto joinStringsSpec)

end Rows
end Go.Proofs.YtabmhfmglhjmjaaGreatDoor

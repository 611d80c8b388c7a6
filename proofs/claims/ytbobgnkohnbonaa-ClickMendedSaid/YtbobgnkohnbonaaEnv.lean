/- The table of types of this seat, for the abstract machine. Made by program (gen_env.py). -/
import Derived.Test.YtbobgnkohnbonaaAbC
import Derived.Test.YtbobgnkohnbonaaProg
import Derived.KernelRfl
set_option linter.unusedVariables false
set_option linter.unusedSimpArgs false
set_option maxRecDepth 100000
namespace Go.Proofs.Ytbobgnkohnbonaa
open Go.Ab Go.RowKit

def ti1 : TI := { size := 1, bytes := 8, agg := false, zero := .v (Go.Value.nilFunc), kind := .other }
def ti2 : TI := { size := 1, bytes := 8, agg := false, zero := .v (Go.Value.int Go.IntKind.i64 0), kind := .int .i64 }
def ti3 : TI := { size := 1, bytes := 8, agg := false, zero := .v (Go.Value.int Go.IntKind.i64 0), kind := .int .i64 }
def ti4 : TI := { size := 1, bytes := 1, agg := false, zero := .v (Go.Value.bool false), kind := .bool }
def ti5 : TI := { size := 1, bytes := 1, agg := false, zero := .v (Go.Value.int Go.IntKind.u8 0), kind := .int .u8 }
def ti6 : TI := { size := 1, bytes := 1, agg := false, zero := .v (Go.Value.int Go.IntKind.u8 0), kind := .int .u8 }
def ti7 : TI := { size := 4, bytes := 24, agg := true, zero := .ag [.v (Go.Value.int Go.IntKind.i64 0), .v (Go.Value.int Go.IntKind.i64 0), .v (Go.Value.bool false), .v (Go.Value.int Go.IntKind.u8 0)], kind := .struct [(0, 2), (1, 3), (2, 4), (3, 6)] }
def ti8 : TI := { size := 4, bytes := 24, agg := true, zero := .ag [.v (Go.Value.int Go.IntKind.i64 0), .v (Go.Value.int Go.IntKind.i64 0), .v (Go.Value.bool false), .v (Go.Value.int Go.IntKind.u8 0)], kind := .struct [(0, 2), (1, 3), (2, 4), (3, 6)] }
def ti9 : TI := { size := 1, bytes := 16, agg := false, zero := .v (Go.Value.string { data := #[] }), kind := .string }
def ti10 : TI := { size := 1, bytes := 16, agg := false, zero := .v (Go.Value.string { data := #[] }), kind := .string }
def ti11 : TI := { size := 1, bytes := 16, agg := false, zero := .v (Go.Value.string { data := #[] }), kind := .string }
def ti12 : TI := { size := 1, bytes := 8, agg := false, zero := .v (Go.Value.int Go.IntKind.u64 0), kind := .int .u64 }
def ti13 : TI := { size := 2, bytes := 24, agg := true, zero := .ag [.v (Go.Value.string { data := #[] }), .v (Go.Value.int Go.IntKind.u64 0)], kind := .struct [(0, 9), (1, 12)] }
def ti14 : TI := { size := 2, bytes := 24, agg := true, zero := .ag [.v (Go.Value.string { data := #[] }), .v (Go.Value.int Go.IntKind.u64 0)], kind := .struct [(0, 9), (1, 12)] }
def ti15 : TI := { size := 1, bytes := 8, agg := false, zero := .v (Go.Value.pointer none), kind := .pointer 164 }
def ti16 : TI := { size := 1, bytes := 8, agg := false, zero := .v (Go.Value.pointer none), kind := .pointer 167 }
def ti17 : TI := { size := 1, bytes := 8, agg := false, zero := .v (Go.Value.pointer none), kind := .pointer 176 }
def ti18 : TI := { size := 1, bytes := 8, agg := true, zero := .ag [.v (Go.Value.pointer none)], kind := .struct [(0, 17)] }
def ti19 : TI := { size := 1, bytes := 8, agg := true, zero := .ag [.v (Go.Value.pointer none)], kind := .struct [(0, 17)] }
def ti20 : TI := { size := 1, bytes := 16, agg := false, zero := .v (Go.Value.nilIface), kind := .iface }
def ti21 : TI := { size := 1, bytes := 4, agg := false, zero := .v (Go.Value.int Go.IntKind.i32 0), kind := .int .i32 }
def ti22 : TI := { size := 1, bytes := 24, agg := false, zero := .v (Go.Value.slice none 0 0), kind := .slice 3 }
def ti23 : TI := { size := 1, bytes := 24, agg := false, zero := .v (Go.Value.slice none 0 0), kind := .slice 58 }
def ti24 : TI := { size := 1, bytes := 8, agg := false, zero := .v (Go.Value.nilFunc), kind := .other }
def ti25 : TI := { size := 1, bytes := 8, agg := false, zero := .v (Go.Value.nilFunc), kind := .other }
def ti26 : TI := { size := 1, bytes := 8, agg := false, zero := .v (Go.Value.nilFunc), kind := .other }
def ti27 : TI := { size := 1, bytes := 8, agg := false, zero := .v (Go.Value.int Go.IntKind.i64 0), kind := .int .i64 }
def ti29 : TI := { size := 1, bytes := 8, agg := false, zero := .v (Go.Value.nilFunc), kind := .other }
def ti30 : TI := { size := 1, bytes := 8, agg := false, zero := .v (Go.Value.nilFunc), kind := .other }
def ti31 : TI := { size := 1, bytes := 8, agg := false, zero := .v (Go.Value.nilFunc), kind := .other }
def ti32 : TI := { size := 1, bytes := 24, agg := false, zero := .v (Go.Value.slice none 0 0), kind := .slice 86 }
def ti34 : TI := { size := 1, bytes := 8, agg := false, zero := .v (Go.Value.nilFunc), kind := .other }
def ti36 : TI := { size := 1, bytes := 8, agg := false, zero := .v (Go.Value.nilFunc), kind := .other }
def ti37 : TI := { size := 1, bytes := 8, agg := false, zero := .v (Go.Value.nilFunc), kind := .other }
def ti38 : TI := { size := 1, bytes := 8, agg := false, zero := .v (Go.Value.nilFunc), kind := .other }
def ti39 : TI := { size := 1, bytes := 8, agg := false, zero := .v (Go.Value.nilFunc), kind := .other }
def ti40 : TI := { size := 6, bytes := 48, agg := true, zero := .ag [.v (Go.Value.int Go.IntKind.i64 0), .v (Go.Value.int Go.IntKind.i64 0), .v (Go.Value.int Go.IntKind.i64 0), .v (Go.Value.int Go.IntKind.i64 0), .v (Go.Value.int Go.IntKind.i64 0), .v (Go.Value.int Go.IntKind.i64 0)], kind := .struct [(0, 3), (1, 3), (2, 3), (3, 3), (4, 3), (5, 3)] }
def ti41 : TI := { size := 6, bytes := 48, agg := true, zero := .ag [.v (Go.Value.int Go.IntKind.i64 0), .v (Go.Value.int Go.IntKind.i64 0), .v (Go.Value.int Go.IntKind.i64 0), .v (Go.Value.int Go.IntKind.i64 0), .v (Go.Value.int Go.IntKind.i64 0), .v (Go.Value.int Go.IntKind.i64 0)], kind := .struct [(0, 3), (1, 3), (2, 3), (3, 3), (4, 3), (5, 3)] }
def ti42 : TI := { size := 1, bytes := 24, agg := false, zero := .v (Go.Value.slice none 0 0), kind := .slice 60 }
def ti44 : TI := { size := 1, bytes := 8, agg := false, zero := .v (Go.Value.nilFunc), kind := .other }
def ti45 : TI := { size := 1, bytes := 8, agg := false, zero := .v (Go.Value.nilFunc), kind := .other }
def ti46 : TI := { size := 1, bytes := 8, agg := false, zero := .v (Go.Value.nilFunc), kind := .other }
def ti47 : TI := { size := 1, bytes := 8, agg := false, zero := .v (Go.Value.nilFunc), kind := .other }
def ti48 : TI := { size := 1, bytes := 8, agg := false, zero := .v (Go.Value.nilFunc), kind := .other }
def ti50 : TI := { size := 1, bytes := 8, agg := false, zero := .v (Go.Value.nilFunc), kind := .other }
def ti51 : TI := { size := 1, bytes := 8, agg := false, zero := .v (Go.Value.nilFunc), kind := .other }
def ti52 : TI := { size := 1, bytes := 8, agg := false, zero := .v (Go.Value.nilFunc), kind := .other }
def ti53 : TI := { size := 1, bytes := 8, agg := false, zero := .v (Go.Value.nilFunc), kind := .other }
def ti54 : TI := { size := 1, bytes := 8, agg := false, zero := .v (Go.Value.nilFunc), kind := .other }
def ti55 : TI := { size := 1, bytes := 8, agg := false, zero := .v (Go.Value.nilFunc), kind := .other }
def ti56 : TI := { size := 1, bytes := 8, agg := false, zero := .v (Go.Value.nilFunc), kind := .other }
def ti57 : TI := { size := 2, bytes := 16, agg := true, zero := .ag [.v (Go.Value.int Go.IntKind.i64 0), .v (Go.Value.int Go.IntKind.i64 0)], kind := .struct [(0, 3), (1, 3)] }
def ti58 : TI := { size := 2, bytes := 16, agg := true, zero := .ag [.v (Go.Value.int Go.IntKind.i64 0), .v (Go.Value.int Go.IntKind.i64 0)], kind := .struct [(0, 3), (1, 3)] }
def ti59 : TI := { size := 4, bytes := 32, agg := true, zero := .ag [.v (Go.Value.int Go.IntKind.i64 0), .v (Go.Value.int Go.IntKind.i64 0), .v (Go.Value.int Go.IntKind.i64 0), .v (Go.Value.int Go.IntKind.i64 0)], kind := .struct [(0, 58), (2, 3), (3, 3)] }
def ti60 : TI := { size := 4, bytes := 32, agg := true, zero := .ag [.v (Go.Value.int Go.IntKind.i64 0), .v (Go.Value.int Go.IntKind.i64 0), .v (Go.Value.int Go.IntKind.i64 0), .v (Go.Value.int Go.IntKind.i64 0)], kind := .struct [(0, 58), (2, 3), (3, 3)] }
def ti61 : TI := { size := 1, bytes := 8, agg := false, zero := .v (Go.Value.nilFunc), kind := .other }
def ti62 : TI := { size := 3, bytes := 40, agg := true, zero := .ag [.v (Go.Value.int Go.IntKind.i64 0), .v (Go.Value.int Go.IntKind.i64 0), .v (Go.Value.slice none 0 0)], kind := .struct [(0, 3), (1, 3), (2, 22)] }
def ti63 : TI := { size := 3, bytes := 40, agg := true, zero := .ag [.v (Go.Value.int Go.IntKind.i64 0), .v (Go.Value.int Go.IntKind.i64 0), .v (Go.Value.slice none 0 0)], kind := .struct [(0, 3), (1, 3), (2, 22)] }
def ti64 : TI := { size := 1, bytes := 8, agg := false, zero := .v (Go.Value.nilFunc), kind := .other }
def ti65 : TI := { size := 1, bytes := 8, agg := false, zero := .v (Go.Value.nilFunc), kind := .other }
def ti66 : TI := { size := 1, bytes := 8, agg := false, zero := .v (Go.Value.nilFunc), kind := .other }
def ti67 : TI := { size := 1, bytes := 8, agg := false, zero := .v (Go.Value.nilFunc), kind := .other }
def ti69 : TI := { size := 1, bytes := 8, agg := false, zero := .v (Go.Value.nilFunc), kind := .other }
def ti70 : TI := { size := 1, bytes := 8, agg := false, zero := .v (Go.Value.nilFunc), kind := .other }
def ti71 : TI := { size := 2, bytes := 32, agg := true, zero := .ag [.v (Go.Value.slice none 0 0), .v (Go.Value.int Go.IntKind.i64 0)], kind := .struct [(0, 22), (1, 3)] }
def ti72 : TI := { size := 2, bytes := 32, agg := true, zero := .ag [.v (Go.Value.slice none 0 0), .v (Go.Value.int Go.IntKind.i64 0)], kind := .struct [(0, 22), (1, 3)] }
def ti74 : TI := { size := 1, bytes := 8, agg := false, zero := .v (Go.Value.nilFunc), kind := .other }
def ti75 : TI := { size := 1, bytes := 8, agg := false, zero := .v (Go.Value.nilFunc), kind := .other }
def ti76 : TI := { size := 1, bytes := 8, agg := false, zero := .v (Go.Value.nilFunc), kind := .other }
def ti77 : TI := { size := 8, bytes := 64, agg := true, zero := .ag [.v (Go.Value.int Go.IntKind.i64 0), .v (Go.Value.int Go.IntKind.i64 0), .v (Go.Value.int Go.IntKind.i64 0), .v (Go.Value.int Go.IntKind.i64 0), .v (Go.Value.int Go.IntKind.i64 0), .v (Go.Value.int Go.IntKind.i64 0), .v (Go.Value.int Go.IntKind.i64 0), .v (Go.Value.int Go.IntKind.i64 0)], kind := .array 8 3 }
def ti78 : TI := { size := 1, bytes := 8, agg := false, zero := .v (Go.Value.nilFunc), kind := .other }
def ti79 : TI := { size := 1, bytes := 8, agg := false, zero := .v (Go.Value.nilFunc), kind := .other }
def ti80 : TI := { size := 1, bytes := 24, agg := false, zero := .v (Go.Value.slice none 0 0), kind := .slice 82 }
def ti81 : TI := { size := 2, bytes := 32, agg := true, zero := .ag [.v (Go.Value.int Go.IntKind.i64 0), .v (Go.Value.slice none 0 0)], kind := .struct [(0, 3), (1, 22)] }
def ti82 : TI := { size := 2, bytes := 32, agg := true, zero := .ag [.v (Go.Value.int Go.IntKind.i64 0), .v (Go.Value.slice none 0 0)], kind := .struct [(0, 3), (1, 22)] }
def ti83 : TI := { size := 1, bytes := 8, agg := false, zero := .v (Go.Value.nilFunc), kind := .other }
def ti84 : TI := { size := 1, bytes := 8, agg := false, zero := .v (Go.Value.nilFunc), kind := .other }
def ti85 : TI := { size := 3, bytes := 40, agg := true, zero := .ag [.v (Go.Value.int Go.IntKind.i64 0), .v (Go.Value.int Go.IntKind.i64 0), .v (Go.Value.slice none 0 0)], kind := .struct [(0, 3), (1, 3), (2, 22)] }
def ti86 : TI := { size := 3, bytes := 40, agg := true, zero := .ag [.v (Go.Value.int Go.IntKind.i64 0), .v (Go.Value.int Go.IntKind.i64 0), .v (Go.Value.slice none 0 0)], kind := .struct [(0, 3), (1, 3), (2, 22)] }
def ti87 : TI := { size := 1, bytes := 8, agg := false, zero := .v (Go.Value.nilFunc), kind := .other }
def ti88 : TI := { size := 1, bytes := 8, agg := false, zero := .v (Go.Value.nilFunc), kind := .other }
def ti89 : TI := { size := 1, bytes := 8, agg := false, zero := .v (Go.Value.nilFunc), kind := .other }
def ti90 : TI := { size := 1, bytes := 8, agg := false, zero := .v (Go.Value.nilFunc), kind := .other }
def ti91 : TI := { size := 2, bytes := 16, agg := true, zero := .ag [.v (Go.Value.int Go.IntKind.i64 0), .v (Go.Value.int Go.IntKind.i64 0)], kind := .array 2 3 }
def ti92 : TI := { size := 1, bytes := 8, agg := false, zero := .v (Go.Value.nilFunc), kind := .other }
def ti93 : TI := { size := 1, bytes := 8, agg := false, zero := .v (Go.Value.nilFunc), kind := .other }
def ti94 : TI := { size := 1, bytes := 8, agg := false, zero := .v (Go.Value.nilFunc), kind := .other }
def ti95 : TI := { size := 1, bytes := 8, agg := false, zero := .v (Go.Value.nilFunc), kind := .other }
def ti96 : TI := { size := 1, bytes := 8, agg := false, zero := .v (Go.Value.nilFunc), kind := .other }
def ti97 : TI := { size := 1, bytes := 8, agg := false, zero := .v (Go.Value.nilFunc), kind := .other }
def ti98 : TI := { size := 1, bytes := 8, agg := false, zero := .v (Go.Value.nilFunc), kind := .other }
def ti99 : TI := { size := 1, bytes := 8, agg := false, zero := .v (Go.Value.nilFunc), kind := .other }
def ti100 : TI := { size := 1, bytes := 8, agg := false, zero := .v (Go.Value.nilFunc), kind := .other }
def ti101 : TI := { size := 1, bytes := 8, agg := false, zero := .v (Go.Value.nilFunc), kind := .other }
def ti102 : TI := { size := 1, bytes := 8, agg := false, zero := .v (Go.Value.nilFunc), kind := .other }
def ti104 : TI := { size := 1, bytes := 8, agg := false, zero := .v (Go.Value.nilFunc), kind := .other }
def ti105 : TI := { size := 1, bytes := 8, agg := false, zero := .v (Go.Value.nilFunc), kind := .other }
def ti106 : TI := { size := 1, bytes := 8, agg := false, zero := .v (Go.Value.nilFunc), kind := .other }
def ti107 : TI := { size := 1, bytes := 8, agg := false, zero := .v (Go.Value.nilFunc), kind := .other }
def ti108 : TI := { size := 1, bytes := 8, agg := false, zero := .v (Go.Value.nilFunc), kind := .other }
def ti109 : TI := { size := 1, bytes := 8, agg := false, zero := .v (Go.Value.nilFunc), kind := .other }
def ti110 : TI := { size := 1, bytes := 24, agg := false, zero := .v (Go.Value.slice none 0 0), kind := .slice 3 }
def ti111 : TI := { size := 1, bytes := 8, agg := false, zero := .v (Go.Value.nilFunc), kind := .other }
def ti112 : TI := { size := 1, bytes := 8, agg := false, zero := .v (Go.Value.nilFunc), kind := .other }
def ti113 : TI := { size := 1, bytes := 8, agg := false, zero := .v (Go.Value.nilFunc), kind := .other }
def ti114 : TI := { size := 1, bytes := 8, agg := false, zero := .v (Go.Value.nilFunc), kind := .other }
def ti115 : TI := { size := 1, bytes := 8, agg := false, zero := .v (Go.Value.nilFunc), kind := .other }
def ti116 : TI := { size := 1, bytes := 8, agg := false, zero := .v (Go.Value.nilFunc), kind := .other }
def ti117 : TI := { size := 1, bytes := 8, agg := false, zero := .v (Go.Value.nilFunc), kind := .other }
def ti118 : TI := { size := 1, bytes := 8, agg := false, zero := .v (Go.Value.nilFunc), kind := .other }
def ti119 : TI := { size := 1, bytes := 8, agg := false, zero := .v (Go.Value.nilFunc), kind := .other }
def ti120 : TI := { size := 1, bytes := 8, agg := false, zero := .v (Go.Value.nilFunc), kind := .other }
def ti121 : TI := { size := 1, bytes := 8, agg := false, zero := .v (Go.Value.nilFunc), kind := .other }
def ti122 : TI := { size := 1, bytes := 8, agg := false, zero := .v (Go.Value.nilFunc), kind := .other }
def ti123 : TI := { size := 1, bytes := 8, agg := false, zero := .v (Go.Value.nilFunc), kind := .other }
def ti124 : TI := { size := 1, bytes := 8, agg := false, zero := .v (Go.Value.nilFunc), kind := .other }
def ti125 : TI := { size := 1, bytes := 8, agg := false, zero := .v (Go.Value.nilFunc), kind := .other }
def ti126 : TI := { size := 1, bytes := 24, agg := false, zero := .v (Go.Value.slice none 0 0), kind := .slice 22 }
def ti127 : TI := { size := 1, bytes := 8, agg := false, zero := .v (Go.Value.nilFunc), kind := .other }
def ti128 : TI := { size := 1, bytes := 8, agg := false, zero := .v (Go.Value.nilFunc), kind := .other }
def ti129 : TI := { size := 1, bytes := 8, agg := false, zero := .v (Go.Value.nilFunc), kind := .other }
def ti130 : TI := { size := 1, bytes := 8, agg := false, zero := .v (Go.Value.nilFunc), kind := .other }
def ti131 : TI := { size := 1, bytes := 8, agg := false, zero := .v (Go.Value.nilFunc), kind := .other }
def ti132 : TI := { size := 1, bytes := 8, agg := false, zero := .v (Go.Value.nilFunc), kind := .other }
def ti133 : TI := { size := 1, bytes := 8, agg := false, zero := .v (Go.Value.nilFunc), kind := .other }
def ti134 : TI := { size := 1, bytes := 24, agg := false, zero := .v (Go.Value.slice none 0 0), kind := .slice 27 }
def ti135 : TI := { size := 1, bytes := 8, agg := false, zero := .v (Go.Value.nilFunc), kind := .other }
def ti136 : TI := { size := 1, bytes := 8, agg := false, zero := .v (Go.Value.nilFunc), kind := .other }
def ti137 : TI := { size := 1, bytes := 8, agg := false, zero := .v (Go.Value.nilFunc), kind := .other }
def ti138 : TI := { size := 1, bytes := 8, agg := false, zero := .v (Go.Value.nilFunc), kind := .other }
def ti139 : TI := { size := 2, bytes := 16, agg := true, zero := .ag [.v (Go.Value.int Go.IntKind.i64 0), .v (Go.Value.int Go.IntKind.i64 0)], kind := .struct [(0, 3), (1, 3)] }
def ti140 : TI := { size := 2, bytes := 16, agg := true, zero := .ag [.v (Go.Value.int Go.IntKind.i64 0), .v (Go.Value.int Go.IntKind.i64 0)], kind := .struct [(0, 3), (1, 3)] }
def ti141 : TI := { size := 1, bytes := 8, agg := false, zero := .v (Go.Value.nilFunc), kind := .other }
def ti142 : TI := { size := 1, bytes := 8, agg := false, zero := .v (Go.Value.nilFunc), kind := .other }
def ti143 : TI := { size := 1, bytes := 8, agg := false, zero := .v (Go.Value.nilFunc), kind := .other }
def ti144 : TI := { size := 1, bytes := 8, agg := false, zero := .v (Go.Value.nilFunc), kind := .other }
def ti145 : TI := { size := 1, bytes := 16, agg := false, zero := .v (Go.Value.nilIface), kind := .iface }
def ti146 : TI := { size := 1, bytes := 16, agg := false, zero := .v (Go.Value.nilIface), kind := .iface }
def ti147 : TI := { size := 1, bytes := 8, agg := false, zero := .v (Go.Value.nilFunc), kind := .other }
def ti148 : TI := { size := 1, bytes := 8, agg := false, zero := .v (Go.Value.nilFunc), kind := .other }
def ti149 : TI := { size := 1, bytes := 8, agg := false, zero := .v (Go.Value.nilFunc), kind := .other }
def ti150 : TI := { size := 1, bytes := 8, agg := false, zero := .v (Go.Value.nilFunc), kind := .other }
def ti151 : TI := { size := 1, bytes := 8, agg := false, zero := .v (Go.Value.nilFunc), kind := .other }
def ti152 : TI := { size := 1, bytes := 8, agg := false, zero := .v (Go.Value.nilFunc), kind := .other }
def ti153 : TI := { size := 1, bytes := 8, agg := false, zero := .v (Go.Value.nilFunc), kind := .other }
def ti154 : TI := { size := 1, bytes := 8, agg := false, zero := .v (Go.Value.nilFunc), kind := .other }
def ti155 : TI := { size := 3, bytes := 24, agg := true, zero := .ag [.v (Go.Value.int Go.IntKind.i64 0), .v (Go.Value.int Go.IntKind.i64 0), .v (Go.Value.int Go.IntKind.i64 0)], kind := .array 3 3 }
def ti156 : TI := { size := 1, bytes := 8, agg := false, zero := .v (Go.Value.nilFunc), kind := .other }
def ti157 : TI := { size := 1, bytes := 8, agg := false, zero := .v (Go.Value.pointer none), kind := .pointer 60 }
def ti158 : TI := { size := 1, bytes := 8, agg := true, zero := .ag [.v (Go.Value.int Go.IntKind.i64 0)], kind := .struct [(0, 3)] }
def ti159 : TI := { size := 1, bytes := 8, agg := true, zero := .ag [.v (Go.Value.int Go.IntKind.i64 0)], kind := .struct [(0, 3)] }
def ti160 : TI := { size := 0, bytes := 0, agg := true, zero := .ag [], kind := .struct [] }
def ti161 : TI := { size := 0, bytes := 0, agg := true, zero := .ag [], kind := .struct [] }
def ti162 : TI := { size := 1, bytes := 8, agg := false, zero := .v (Go.Value.nilFunc), kind := .other }
def ti163 : TI := { size := 4, bytes := 40, agg := true, zero := .ag [.v (Go.Value.pointer none), .v (Go.Value.pointer none), .v (Go.Value.pointer none), .v (Go.Value.string { data := #[] })], kind := .struct [(0, 17), (1, 17), (2, 17), (3, 9)] }
def ti164 : TI := { size := 4, bytes := 40, agg := true, zero := .ag [.v (Go.Value.pointer none), .v (Go.Value.pointer none), .v (Go.Value.pointer none), .v (Go.Value.string { data := #[] })], kind := .struct [(0, 17), (1, 17), (2, 17), (3, 9)] }
def ti165 : TI := { size := 0, bytes := 0, agg := true, zero := .ag [], kind := .array 0 16 }
def ti166 : TI := { size := 0, bytes := 0, agg := true, zero := .ag [], kind := .struct [(0, 165)] }
def ti167 : TI := { size := 0, bytes := 0, agg := true, zero := .ag [], kind := .struct [(0, 165)] }
def ti168 : TI := { size := 1, bytes := 4, agg := false, zero := .v (Go.Value.int Go.IntKind.u32 0), kind := .int .u32 }
def ti169 : TI := { size := 1, bytes := 1, agg := false, zero := .v (Go.Value.int Go.IntKind.u8 0), kind := .int .u8 }
def ti170 : TI := { size := 1, bytes := 1, agg := false, zero := .v (Go.Value.int Go.IntKind.u8 0), kind := .int .u8 }
def ti171 : TI := { size := 1, bytes := 8, agg := false, zero := .v (Go.Value.nilFunc), kind := .other }
def ti172 : TI := { size := 1, bytes := 8, agg := false, zero := .v (Go.Value.pointer none), kind := .pointer 5 }
def ti173 : TI := { size := 1, bytes := 4, agg := false, zero := .v (Go.Value.int Go.IntKind.i32 0), kind := .int .i32 }
def ti174 : TI := { size := 1, bytes := 4, agg := false, zero := .v (Go.Value.int Go.IntKind.i32 0), kind := .int .i32 }
def ti175 : TI := { size := 11, bytes := 48, agg := true, zero := .ag [.v (Go.Value.int Go.IntKind.u64 0), .v (Go.Value.int Go.IntKind.u64 0), .v (Go.Value.int Go.IntKind.u32 0), .v (Go.Value.int Go.IntKind.u8 0), .v (Go.Value.int Go.IntKind.u8 0), .v (Go.Value.int Go.IntKind.u8 0), .v (Go.Value.int Go.IntKind.u8 0), .v (Go.Value.nilFunc), .v (Go.Value.pointer none), .v (Go.Value.int Go.IntKind.i32 0), .v (Go.Value.int Go.IntKind.i32 0)], kind := .struct [(0, 12), (1, 12), (2, 168), (3, 169), (4, 5), (5, 5), (6, 170), (7, 171), (8, 172), (9, 173), (10, 174)] }
def ti176 : TI := { size := 11, bytes := 48, agg := true, zero := .ag [.v (Go.Value.int Go.IntKind.u64 0), .v (Go.Value.int Go.IntKind.u64 0), .v (Go.Value.int Go.IntKind.u32 0), .v (Go.Value.int Go.IntKind.u8 0), .v (Go.Value.int Go.IntKind.u8 0), .v (Go.Value.int Go.IntKind.u8 0), .v (Go.Value.int Go.IntKind.u8 0), .v (Go.Value.nilFunc), .v (Go.Value.pointer none), .v (Go.Value.int Go.IntKind.i32 0), .v (Go.Value.int Go.IntKind.i32 0)], kind := .struct [(0, 12), (1, 12), (2, 168), (3, 169), (4, 5), (5, 5), (6, 170), (7, 171), (8, 172), (9, 173), (10, 174)] }
def ti177 : TI := { size := 1, bytes := 8, agg := false, zero := .v (Go.Value.nilFunc), kind := .other }
def ti178 : TI := { size := 1, bytes := 8, agg := false, zero := .v (Go.Value.nilFunc), kind := .other }
def ti179 : TI := { size := 1, bytes := 8, agg := false, zero := .v (Go.Value.nilFunc), kind := .other }
def ti180 : TI := { size := 1, bytes := 8, agg := false, zero := .v (Go.Value.nilFunc), kind := .other }
def ti181 : TI := { size := 1, bytes := 8, agg := false, zero := .v (Go.Value.nilFunc), kind := .other }
def ti182 : TI := { size := 1, bytes := 8, agg := false, zero := .v (Go.Value.nilFunc), kind := .other }
def ti183 : TI := { size := 1, bytes := 8, agg := false, zero := .v (Go.Value.nilFunc), kind := .other }
def ti184 : TI := { size := 1, bytes := 8, agg := false, zero := .v (Go.Value.nilFunc), kind := .other }
def ti185 : TI := { size := 1, bytes := 8, agg := false, zero := .v (Go.Value.int Go.IntKind.u64 0), kind := .int .u64 }
def ti186 : TI := { size := 1, bytes := 8, agg := false, zero := .v (Go.Value.nilFunc), kind := .other }
def ti187 : TI := { size := 1, bytes := 8, agg := false, zero := .v (Go.Value.int Go.IntKind.i64 0), kind := .int .i64 }
def ti189 : TI := { size := 1, bytes := 8, agg := false, zero := .v (Go.Value.nilFunc), kind := .other }
def ti190 : TI := { size := 1, bytes := 8, agg := false, zero := .v (Go.Value.nilFunc), kind := .other }
def ti191 : TI := { size := 1, bytes := 8, agg := false, zero := .v (Go.Value.nilFunc), kind := .other }
def ti193 : TI := { size := 1, bytes := 8, agg := false, zero := .v (Go.Value.nilFunc), kind := .other }
def ti194 : TI := { size := 1, bytes := 8, agg := false, zero := .v (Go.Value.nilFunc), kind := .other }
def ti195 : TI := { size := 1, bytes := 8, agg := false, zero := .v (Go.Value.nilFunc), kind := .other }
def ti196 : TI := { size := 1, bytes := 8, agg := false, zero := .v (Go.Value.int Go.IntKind.u64 0), kind := .int .u64 }
def ti197 : TI := { size := 1, bytes := 8, agg := false, zero := .v (Go.Value.int Go.IntKind.u64 0), kind := .int .u64 }
def ti198 : TI := { size := 1, bytes := 8, agg := false, zero := .v (Go.Value.nilFunc), kind := .other }
def ti199 : TI := { size := 1, bytes := 8, agg := false, zero := .v (Go.Value.nilFunc), kind := .other }
def ti200 : TI := { size := 1, bytes := 8, agg := false, zero := .v (Go.Value.nilFunc), kind := .other }
def ti201 : TI := { size := 1, bytes := 8, agg := false, zero := .v (Go.Value.pointer none), kind := .pointer 3 }
def ti202 : TI := { size := 1, bytes := 8, agg := false, zero := .v (Go.Value.nilFunc), kind := .other }
def ti203 : TI := { size := 1, bytes := 8, agg := false, zero := .v (Go.Value.pointer none), kind := .pointer 197 }
def ti204 : TI := { size := 1, bytes := 8, agg := false, zero := .v (Go.Value.nilFunc), kind := .other }

def tyL : List (Nat × TI) := [(1, ti1), (2, ti2), (3, ti3), (4, ti4), (5, ti5), (6, ti6), (7, ti7), (8, ti8), (9, ti9), (10, ti10), (11, ti11), (12, ti12), (13, ti13), (14, ti14), (15, ti15), (16, ti16), (17, ti17), (18, ti18), (19, ti19), (20, ti20), (21, ti21), (22, ti22), (23, ti23), (24, ti24), (25, ti25), (26, ti26), (27, ti27), (29, ti29), (30, ti30), (31, ti31), (32, ti32), (34, ti34), (36, ti36), (37, ti37), (38, ti38), (39, ti39), (40, ti40), (41, ti41), (42, ti42), (44, ti44), (45, ti45), (46, ti46), (47, ti47), (48, ti48), (50, ti50), (51, ti51), (52, ti52), (53, ti53), (54, ti54), (55, ti55), (56, ti56), (57, ti57), (58, ti58), (59, ti59), (60, ti60), (61, ti61), (62, ti62), (63, ti63), (64, ti64), (65, ti65), (66, ti66), (67, ti67), (69, ti69), (70, ti70), (71, ti71), (72, ti72), (74, ti74), (75, ti75), (76, ti76), (77, ti77), (78, ti78), (79, ti79), (80, ti80), (81, ti81), (82, ti82), (83, ti83), (84, ti84), (85, ti85), (86, ti86), (87, ti87), (88, ti88), (89, ti89), (90, ti90), (91, ti91), (92, ti92), (93, ti93), (94, ti94), (95, ti95), (96, ti96), (97, ti97), (98, ti98), (99, ti99), (100, ti100), (101, ti101), (102, ti102), (104, ti104), (105, ti105), (106, ti106), (107, ti107), (108, ti108), (109, ti109), (110, ti110), (111, ti111), (112, ti112), (113, ti113), (114, ti114), (115, ti115), (116, ti116), (117, ti117), (118, ti118), (119, ti119), (120, ti120), (121, ti121), (122, ti122), (123, ti123), (124, ti124), (125, ti125), (126, ti126), (127, ti127), (128, ti128), (129, ti129), (130, ti130), (131, ti131), (132, ti132), (133, ti133), (134, ti134), (135, ti135), (136, ti136), (137, ti137), (138, ti138), (139, ti139), (140, ti140), (141, ti141), (142, ti142), (143, ti143), (144, ti144), (145, ti145), (146, ti146), (147, ti147), (148, ti148), (149, ti149), (150, ti150), (151, ti151), (152, ti152), (153, ti153), (154, ti154), (155, ti155), (156, ti156), (157, ti157), (158, ti158), (159, ti159), (160, ti160), (161, ti161), (162, ti162), (163, ti163), (164, ti164), (165, ti165), (166, ti166), (167, ti167), (168, ti168), (169, ti169), (170, ti170), (171, ti171), (172, ti172), (173, ti173), (174, ti174), (175, ti175), (176, ti176), (177, ti177), (178, ti178), (179, ti179), (180, ti180), (181, ti181), (182, ti182), (183, ti183), (184, ti184), (185, ti185), (186, ti186), (187, ti187), (189, ti189), (190, ti190), (191, ti191), (193, ti193), (194, ti194), (195, ti195), (196, ti196), (197, ti197), (198, ti198), (199, ti199), (200, ti200), (201, ti201), (202, ti202), (203, ti203), (204, ti204)]
def lkT : List (Nat × TI) → Nat → Option TI
  | [], _ => none
  | p :: l, t => bif p.1 == t then some p.2 else lkT l t
def tyTab : Tab := lkT tyL
theorem tab1 : tyTab 1 = some ti1 := rfl
theorem tab2 : tyTab 2 = some ti2 := rfl
theorem tab3 : tyTab 3 = some ti3 := rfl
theorem tab4 : tyTab 4 = some ti4 := rfl
theorem tab5 : tyTab 5 = some ti5 := rfl
theorem tab6 : tyTab 6 = some ti6 := rfl
theorem tab7 : tyTab 7 = some ti7 := rfl
theorem tab8 : tyTab 8 = some ti8 := rfl
theorem tab9 : tyTab 9 = some ti9 := rfl
theorem tab10 : tyTab 10 = some ti10 := rfl
theorem tab11 : tyTab 11 = some ti11 := rfl
theorem tab12 : tyTab 12 = some ti12 := rfl
theorem tab13 : tyTab 13 = some ti13 := rfl
theorem tab14 : tyTab 14 = some ti14 := rfl
theorem tab15 : tyTab 15 = some ti15 := rfl
theorem tab16 : tyTab 16 = some ti16 := rfl
theorem tab17 : tyTab 17 = some ti17 := rfl
theorem tab18 : tyTab 18 = some ti18 := rfl
theorem tab19 : tyTab 19 = some ti19 := rfl
theorem tab20 : tyTab 20 = some ti20 := rfl
theorem tab21 : tyTab 21 = some ti21 := rfl
theorem tab22 : tyTab 22 = some ti22 := rfl
theorem tab23 : tyTab 23 = some ti23 := rfl
theorem tab24 : tyTab 24 = some ti24 := rfl
theorem tab25 : tyTab 25 = some ti25 := rfl
theorem tab26 : tyTab 26 = some ti26 := rfl
theorem tab27 : tyTab 27 = some ti27 := rfl
theorem tab29 : tyTab 29 = some ti29 := rfl
theorem tab30 : tyTab 30 = some ti30 := rfl
theorem tab31 : tyTab 31 = some ti31 := rfl
theorem tab32 : tyTab 32 = some ti32 := rfl
theorem tab34 : tyTab 34 = some ti34 := rfl
theorem tab36 : tyTab 36 = some ti36 := rfl
theorem tab37 : tyTab 37 = some ti37 := rfl
theorem tab38 : tyTab 38 = some ti38 := rfl
theorem tab39 : tyTab 39 = some ti39 := rfl
theorem tab40 : tyTab 40 = some ti40 := rfl
theorem tab41 : tyTab 41 = some ti41 := rfl
theorem tab42 : tyTab 42 = some ti42 := rfl
theorem tab44 : tyTab 44 = some ti44 := rfl
theorem tab45 : tyTab 45 = some ti45 := rfl
theorem tab46 : tyTab 46 = some ti46 := rfl
theorem tab47 : tyTab 47 = some ti47 := rfl
theorem tab48 : tyTab 48 = some ti48 := rfl
theorem tab50 : tyTab 50 = some ti50 := rfl
theorem tab51 : tyTab 51 = some ti51 := rfl
theorem tab52 : tyTab 52 = some ti52 := rfl
theorem tab53 : tyTab 53 = some ti53 := rfl
theorem tab54 : tyTab 54 = some ti54 := rfl
theorem tab55 : tyTab 55 = some ti55 := rfl
theorem tab56 : tyTab 56 = some ti56 := rfl
theorem tab57 : tyTab 57 = some ti57 := rfl
theorem tab58 : tyTab 58 = some ti58 := rfl
theorem tab59 : tyTab 59 = some ti59 := rfl
theorem tab60 : tyTab 60 = some ti60 := rfl
theorem tab61 : tyTab 61 = some ti61 := rfl
theorem tab62 : tyTab 62 = some ti62 := rfl
theorem tab63 : tyTab 63 = some ti63 := rfl
theorem tab64 : tyTab 64 = some ti64 := rfl
theorem tab65 : tyTab 65 = some ti65 := rfl
theorem tab66 : tyTab 66 = some ti66 := rfl
theorem tab67 : tyTab 67 = some ti67 := rfl
theorem tab69 : tyTab 69 = some ti69 := rfl
theorem tab70 : tyTab 70 = some ti70 := rfl
theorem tab71 : tyTab 71 = some ti71 := rfl
theorem tab72 : tyTab 72 = some ti72 := rfl
theorem tab74 : tyTab 74 = some ti74 := rfl
theorem tab75 : tyTab 75 = some ti75 := rfl
theorem tab76 : tyTab 76 = some ti76 := rfl
theorem tab77 : tyTab 77 = some ti77 := rfl
theorem tab78 : tyTab 78 = some ti78 := rfl
theorem tab79 : tyTab 79 = some ti79 := rfl
theorem tab80 : tyTab 80 = some ti80 := rfl
theorem tab81 : tyTab 81 = some ti81 := rfl
theorem tab82 : tyTab 82 = some ti82 := rfl
theorem tab83 : tyTab 83 = some ti83 := rfl
theorem tab84 : tyTab 84 = some ti84 := rfl
theorem tab85 : tyTab 85 = some ti85 := rfl
theorem tab86 : tyTab 86 = some ti86 := rfl
theorem tab87 : tyTab 87 = some ti87 := rfl
theorem tab88 : tyTab 88 = some ti88 := rfl
theorem tab89 : tyTab 89 = some ti89 := rfl
theorem tab90 : tyTab 90 = some ti90 := rfl
theorem tab91 : tyTab 91 = some ti91 := rfl
theorem tab92 : tyTab 92 = some ti92 := rfl
theorem tab93 : tyTab 93 = some ti93 := rfl
theorem tab94 : tyTab 94 = some ti94 := rfl
theorem tab95 : tyTab 95 = some ti95 := rfl
theorem tab96 : tyTab 96 = some ti96 := rfl
theorem tab97 : tyTab 97 = some ti97 := rfl
theorem tab98 : tyTab 98 = some ti98 := rfl
theorem tab99 : tyTab 99 = some ti99 := rfl
theorem tab100 : tyTab 100 = some ti100 := rfl
theorem tab101 : tyTab 101 = some ti101 := rfl
theorem tab102 : tyTab 102 = some ti102 := rfl
theorem tab104 : tyTab 104 = some ti104 := rfl
theorem tab105 : tyTab 105 = some ti105 := rfl
theorem tab106 : tyTab 106 = some ti106 := rfl
theorem tab107 : tyTab 107 = some ti107 := rfl
theorem tab108 : tyTab 108 = some ti108 := rfl
theorem tab109 : tyTab 109 = some ti109 := rfl
theorem tab110 : tyTab 110 = some ti110 := rfl
theorem tab111 : tyTab 111 = some ti111 := rfl
theorem tab112 : tyTab 112 = some ti112 := rfl
theorem tab113 : tyTab 113 = some ti113 := rfl
theorem tab114 : tyTab 114 = some ti114 := rfl
theorem tab115 : tyTab 115 = some ti115 := rfl
theorem tab116 : tyTab 116 = some ti116 := rfl
theorem tab117 : tyTab 117 = some ti117 := rfl
theorem tab118 : tyTab 118 = some ti118 := rfl
theorem tab119 : tyTab 119 = some ti119 := rfl
theorem tab120 : tyTab 120 = some ti120 := rfl
theorem tab121 : tyTab 121 = some ti121 := rfl
theorem tab122 : tyTab 122 = some ti122 := rfl
theorem tab123 : tyTab 123 = some ti123 := rfl
theorem tab124 : tyTab 124 = some ti124 := rfl
theorem tab125 : tyTab 125 = some ti125 := rfl
theorem tab126 : tyTab 126 = some ti126 := rfl
theorem tab127 : tyTab 127 = some ti127 := rfl
theorem tab128 : tyTab 128 = some ti128 := rfl
theorem tab129 : tyTab 129 = some ti129 := rfl
theorem tab130 : tyTab 130 = some ti130 := rfl
theorem tab131 : tyTab 131 = some ti131 := rfl
theorem tab132 : tyTab 132 = some ti132 := rfl
theorem tab133 : tyTab 133 = some ti133 := rfl
theorem tab134 : tyTab 134 = some ti134 := rfl
theorem tab135 : tyTab 135 = some ti135 := rfl
theorem tab136 : tyTab 136 = some ti136 := rfl
theorem tab137 : tyTab 137 = some ti137 := rfl
theorem tab138 : tyTab 138 = some ti138 := rfl
theorem tab139 : tyTab 139 = some ti139 := rfl
theorem tab140 : tyTab 140 = some ti140 := rfl
theorem tab141 : tyTab 141 = some ti141 := rfl
theorem tab142 : tyTab 142 = some ti142 := rfl
theorem tab143 : tyTab 143 = some ti143 := rfl
theorem tab144 : tyTab 144 = some ti144 := rfl
theorem tab145 : tyTab 145 = some ti145 := rfl
theorem tab146 : tyTab 146 = some ti146 := rfl
theorem tab147 : tyTab 147 = some ti147 := rfl
theorem tab148 : tyTab 148 = some ti148 := rfl
theorem tab149 : tyTab 149 = some ti149 := rfl
theorem tab150 : tyTab 150 = some ti150 := rfl
theorem tab151 : tyTab 151 = some ti151 := rfl
theorem tab152 : tyTab 152 = some ti152 := rfl
theorem tab153 : tyTab 153 = some ti153 := rfl
theorem tab154 : tyTab 154 = some ti154 := rfl
theorem tab155 : tyTab 155 = some ti155 := rfl
theorem tab156 : tyTab 156 = some ti156 := rfl
theorem tab157 : tyTab 157 = some ti157 := rfl
theorem tab158 : tyTab 158 = some ti158 := rfl
theorem tab159 : tyTab 159 = some ti159 := rfl
theorem tab160 : tyTab 160 = some ti160 := rfl
theorem tab161 : tyTab 161 = some ti161 := rfl
theorem tab162 : tyTab 162 = some ti162 := rfl
theorem tab163 : tyTab 163 = some ti163 := rfl
theorem tab164 : tyTab 164 = some ti164 := rfl
theorem tab165 : tyTab 165 = some ti165 := rfl
theorem tab166 : tyTab 166 = some ti166 := rfl
theorem tab167 : tyTab 167 = some ti167 := rfl
theorem tab168 : tyTab 168 = some ti168 := rfl
theorem tab169 : tyTab 169 = some ti169 := rfl
theorem tab170 : tyTab 170 = some ti170 := rfl
theorem tab171 : tyTab 171 = some ti171 := rfl
theorem tab172 : tyTab 172 = some ti172 := rfl
theorem tab173 : tyTab 173 = some ti173 := rfl
theorem tab174 : tyTab 174 = some ti174 := rfl
theorem tab175 : tyTab 175 = some ti175 := rfl
theorem tab176 : tyTab 176 = some ti176 := rfl
theorem tab177 : tyTab 177 = some ti177 := rfl
theorem tab178 : tyTab 178 = some ti178 := rfl
theorem tab179 : tyTab 179 = some ti179 := rfl
theorem tab180 : tyTab 180 = some ti180 := rfl
theorem tab181 : tyTab 181 = some ti181 := rfl
theorem tab182 : tyTab 182 = some ti182 := rfl
theorem tab183 : tyTab 183 = some ti183 := rfl
theorem tab184 : tyTab 184 = some ti184 := rfl
theorem tab185 : tyTab 185 = some ti185 := rfl
theorem tab186 : tyTab 186 = some ti186 := rfl
theorem tab187 : tyTab 187 = some ti187 := rfl
theorem tab189 : tyTab 189 = some ti189 := rfl
theorem tab190 : tyTab 190 = some ti190 := rfl
theorem tab191 : tyTab 191 = some ti191 := rfl
theorem tab193 : tyTab 193 = some ti193 := rfl
theorem tab194 : tyTab 194 = some ti194 := rfl
theorem tab195 : tyTab 195 = some ti195 := rfl
theorem tab196 : tyTab 196 = some ti196 := rfl
theorem tab197 : tyTab 197 = some ti197 := rfl
theorem tab198 : tyTab 198 = some ti198 := rfl
theorem tab199 : tyTab 199 = some ti199 := rfl
theorem tab200 : tyTab 200 = some ti200 := rfl
theorem tab201 : tyTab 201 = some ti201 := rfl
theorem tab202 : tyTab 202 = some ti202 := rfl
theorem tab203 : tyTab 203 = some ti203 := rfl
theorem tab204 : tyTab 204 = some ti204 := rfl
theorem lkT_mem : ∀ {l : List (Nat × TI)} {t : Nat} {ti : TI}, lkT l t = some ti → (t, ti) ∈ l
  | p :: l, t, ti, h => by
    simp only [lkT] at h
    by_cases e : p.1 = t
    · subst e; simp at h; simp [← h]
    · rw [show (p.1 == t) = false by simpa using e, cond_false] at h
      exact List.mem_cons_of_mem _ (lkT_mem h)
theorem ok1 : TIok Try.prog 1 ti1 := ⟨⟨Try.t1, by kernel_rfl, rfl, rfl, (Go.Value.nilFunc), rfl, rfl, rfl⟩, ⟨_, Try.underlying1, by first | trivial | exact rfl | exact ⟨rfl, rfl⟩, rfl⟩⟩
theorem ok2 : TIok Try.prog 2 ti2 := ⟨⟨Try.t2, by kernel_rfl, rfl, rfl, (Go.Value.int Go.IntKind.i64 0), rfl, rfl, rfl⟩, ⟨_, Try.underlying2, by first | trivial | exact rfl | exact ⟨rfl, rfl⟩, rfl⟩⟩
theorem ok3 : TIok Try.prog 3 ti3 := ⟨⟨Try.t3, by kernel_rfl, rfl, rfl, (Go.Value.int Go.IntKind.i64 0), rfl, rfl, rfl⟩, ⟨_, Try.underlying3, by first | trivial | exact rfl | exact ⟨rfl, rfl⟩, rfl⟩⟩
theorem ok4 : TIok Try.prog 4 ti4 := ⟨⟨Try.t4, by kernel_rfl, rfl, rfl, (Go.Value.bool false), rfl, rfl, rfl⟩, ⟨_, Try.underlying4, by first | trivial | exact rfl | exact ⟨rfl, rfl⟩, rfl⟩⟩
theorem ok5 : TIok Try.prog 5 ti5 := ⟨⟨Try.t5, by kernel_rfl, rfl, rfl, (Go.Value.int Go.IntKind.u8 0), rfl, rfl, rfl⟩, ⟨_, Try.underlying5, by first | trivial | exact rfl | exact ⟨rfl, rfl⟩, rfl⟩⟩
theorem ok6 : TIok Try.prog 6 ti6 := ⟨⟨Try.t6, by kernel_rfl, rfl, rfl, (Go.Value.int Go.IntKind.u8 0), rfl, rfl, rfl⟩, ⟨_, Try.underlying6, by first | trivial | exact rfl | exact ⟨rfl, rfl⟩, rfl⟩⟩
theorem ok7 : TIok Try.prog 7 ti7 := ⟨⟨Try.t7, by kernel_rfl, rfl, rfl, (Go.Value.agg #[Go.Value.int Go.IntKind.i64 0, Go.Value.int Go.IntKind.i64 0, Go.Value.bool false, Go.Value.int Go.IntKind.u8 0]), rfl, rfl, rfl⟩, ⟨_, Try.underlying7, by first | trivial | exact rfl | exact ⟨rfl, rfl⟩, rfl⟩⟩
theorem ok8 : TIok Try.prog 8 ti8 := ⟨⟨Try.t8, by kernel_rfl, rfl, rfl, (Go.Value.agg #[Go.Value.int Go.IntKind.i64 0, Go.Value.int Go.IntKind.i64 0, Go.Value.bool false, Go.Value.int Go.IntKind.u8 0]), rfl, rfl, rfl⟩, ⟨_, Try.underlying8, by first | trivial | exact rfl | exact ⟨rfl, rfl⟩, rfl⟩⟩
theorem ok9 : TIok Try.prog 9 ti9 := ⟨⟨Try.t9, by kernel_rfl, rfl, rfl, (Go.Value.string { data := #[] }), rfl, rfl, rfl⟩, ⟨_, Try.underlying9, by first | trivial | exact rfl | exact ⟨rfl, rfl⟩, rfl⟩⟩
theorem ok10 : TIok Try.prog 10 ti10 := ⟨⟨Try.t10, by kernel_rfl, rfl, rfl, (Go.Value.string { data := #[] }), rfl, rfl, rfl⟩, ⟨_, Try.underlying10, by first | trivial | exact rfl | exact ⟨rfl, rfl⟩, rfl⟩⟩
theorem ok11 : TIok Try.prog 11 ti11 := ⟨⟨Try.t11, by kernel_rfl, rfl, rfl, (Go.Value.string { data := #[] }), rfl, rfl, rfl⟩, ⟨_, Try.underlying11, by first | trivial | exact rfl | exact ⟨rfl, rfl⟩, rfl⟩⟩
theorem ok12 : TIok Try.prog 12 ti12 := ⟨⟨Try.t12, by kernel_rfl, rfl, rfl, (Go.Value.int Go.IntKind.u64 0), rfl, rfl, rfl⟩, ⟨_, Try.underlying12, by first | trivial | exact rfl | exact ⟨rfl, rfl⟩, rfl⟩⟩
theorem ok13 : TIok Try.prog 13 ti13 := ⟨⟨Try.t13, by kernel_rfl, rfl, rfl, (Go.Value.agg #[Go.Value.string { data := #[] }, Go.Value.int Go.IntKind.u64 0]), rfl, rfl, rfl⟩, ⟨_, Try.underlying13, by first | trivial | exact rfl | exact ⟨rfl, rfl⟩, rfl⟩⟩
theorem ok14 : TIok Try.prog 14 ti14 := ⟨⟨Try.t14, by kernel_rfl, rfl, rfl, (Go.Value.agg #[Go.Value.string { data := #[] }, Go.Value.int Go.IntKind.u64 0]), rfl, rfl, rfl⟩, ⟨_, Try.underlying14, by first | trivial | exact rfl | exact ⟨rfl, rfl⟩, rfl⟩⟩
theorem ok15 : TIok Try.prog 15 ti15 := ⟨⟨Try.t15, by kernel_rfl, rfl, rfl, (Go.Value.pointer none), rfl, rfl, rfl⟩, ⟨_, Try.underlying15, by first | trivial | exact rfl | exact ⟨rfl, rfl⟩, rfl⟩⟩
theorem ok16 : TIok Try.prog 16 ti16 := ⟨⟨Try.t16, by kernel_rfl, rfl, rfl, (Go.Value.pointer none), rfl, rfl, rfl⟩, ⟨_, Try.underlying16, by first | trivial | exact rfl | exact ⟨rfl, rfl⟩, rfl⟩⟩
theorem ok17 : TIok Try.prog 17 ti17 := ⟨⟨Try.t17, by kernel_rfl, rfl, rfl, (Go.Value.pointer none), rfl, rfl, rfl⟩, ⟨_, Try.underlying17, by first | trivial | exact rfl | exact ⟨rfl, rfl⟩, rfl⟩⟩
theorem ok18 : TIok Try.prog 18 ti18 := ⟨⟨Try.t18, by kernel_rfl, rfl, rfl, (Go.Value.agg #[Go.Value.pointer none]), rfl, rfl, rfl⟩, ⟨_, Try.underlying18, by first | trivial | exact rfl | exact ⟨rfl, rfl⟩, rfl⟩⟩
theorem ok19 : TIok Try.prog 19 ti19 := ⟨⟨Try.t19, by kernel_rfl, rfl, rfl, (Go.Value.agg #[Go.Value.pointer none]), rfl, rfl, rfl⟩, ⟨_, Try.underlying19, by first | trivial | exact rfl | exact ⟨rfl, rfl⟩, rfl⟩⟩
theorem ok20 : TIok Try.prog 20 ti20 := ⟨⟨Try.t20, by kernel_rfl, rfl, rfl, (Go.Value.nilIface), rfl, rfl, rfl⟩, ⟨_, Try.underlying20, by first | trivial | exact rfl | exact ⟨rfl, rfl⟩, rfl⟩⟩
theorem ok21 : TIok Try.prog 21 ti21 := ⟨⟨Try.t21, by kernel_rfl, rfl, rfl, (Go.Value.int Go.IntKind.i32 0), rfl, rfl, rfl⟩, ⟨_, Try.underlying21, by first | trivial | exact rfl | exact ⟨rfl, rfl⟩, rfl⟩⟩
theorem ok22 : TIok Try.prog 22 ti22 := ⟨⟨Try.t22, by kernel_rfl, rfl, rfl, (Go.Value.slice none 0 0), rfl, rfl, rfl⟩, ⟨_, Try.underlying22, by first | trivial | exact rfl | exact ⟨rfl, rfl⟩, rfl⟩⟩
theorem ok23 : TIok Try.prog 23 ti23 := ⟨⟨Try.t23, by kernel_rfl, rfl, rfl, (Go.Value.slice none 0 0), rfl, rfl, rfl⟩, ⟨_, Try.underlying23, by first | trivial | exact rfl | exact ⟨rfl, rfl⟩, rfl⟩⟩
theorem ok24 : TIok Try.prog 24 ti24 := ⟨⟨Try.t24, by kernel_rfl, rfl, rfl, (Go.Value.nilFunc), rfl, rfl, rfl⟩, ⟨_, Try.underlying24, by first | trivial | exact rfl | exact ⟨rfl, rfl⟩, rfl⟩⟩
theorem ok25 : TIok Try.prog 25 ti25 := ⟨⟨Try.t25, by kernel_rfl, rfl, rfl, (Go.Value.nilFunc), rfl, rfl, rfl⟩, ⟨_, Try.underlying25, by first | trivial | exact rfl | exact ⟨rfl, rfl⟩, rfl⟩⟩
theorem ok26 : TIok Try.prog 26 ti26 := ⟨⟨Try.t26, by kernel_rfl, rfl, rfl, (Go.Value.nilFunc), rfl, rfl, rfl⟩, ⟨_, Try.underlying26, by first | trivial | exact rfl | exact ⟨rfl, rfl⟩, rfl⟩⟩
theorem ok27 : TIok Try.prog 27 ti27 := ⟨⟨Try.t27, by kernel_rfl, rfl, rfl, (Go.Value.int Go.IntKind.i64 0), rfl, rfl, rfl⟩, ⟨_, Try.underlying27, by first | trivial | exact rfl | exact ⟨rfl, rfl⟩, rfl⟩⟩
theorem ok29 : TIok Try.prog 29 ti29 := ⟨⟨Try.t29, by kernel_rfl, rfl, rfl, (Go.Value.nilFunc), rfl, rfl, rfl⟩, ⟨_, Try.underlying29, by first | trivial | exact rfl | exact ⟨rfl, rfl⟩, rfl⟩⟩
theorem ok30 : TIok Try.prog 30 ti30 := ⟨⟨Try.t30, by kernel_rfl, rfl, rfl, (Go.Value.nilFunc), rfl, rfl, rfl⟩, ⟨_, Try.underlying30, by first | trivial | exact rfl | exact ⟨rfl, rfl⟩, rfl⟩⟩
theorem ok31 : TIok Try.prog 31 ti31 := ⟨⟨Try.t31, by kernel_rfl, rfl, rfl, (Go.Value.nilFunc), rfl, rfl, rfl⟩, ⟨_, Try.underlying31, by first | trivial | exact rfl | exact ⟨rfl, rfl⟩, rfl⟩⟩
theorem ok32 : TIok Try.prog 32 ti32 := ⟨⟨Try.t32, by kernel_rfl, rfl, rfl, (Go.Value.slice none 0 0), rfl, rfl, rfl⟩, ⟨_, Try.underlying32, by first | trivial | exact rfl | exact ⟨rfl, rfl⟩, rfl⟩⟩
theorem ok34 : TIok Try.prog 34 ti34 := ⟨⟨Try.t34, by kernel_rfl, rfl, rfl, (Go.Value.nilFunc), rfl, rfl, rfl⟩, ⟨_, Try.underlying34, by first | trivial | exact rfl | exact ⟨rfl, rfl⟩, rfl⟩⟩
theorem ok36 : TIok Try.prog 36 ti36 := ⟨⟨Try.t36, by kernel_rfl, rfl, rfl, (Go.Value.nilFunc), rfl, rfl, rfl⟩, ⟨_, Try.underlying36, by first | trivial | exact rfl | exact ⟨rfl, rfl⟩, rfl⟩⟩
theorem ok37 : TIok Try.prog 37 ti37 := ⟨⟨Try.t37, by kernel_rfl, rfl, rfl, (Go.Value.nilFunc), rfl, rfl, rfl⟩, ⟨_, Try.underlying37, by first | trivial | exact rfl | exact ⟨rfl, rfl⟩, rfl⟩⟩
theorem ok38 : TIok Try.prog 38 ti38 := ⟨⟨Try.t38, by kernel_rfl, rfl, rfl, (Go.Value.nilFunc), rfl, rfl, rfl⟩, ⟨_, Try.underlying38, by first | trivial | exact rfl | exact ⟨rfl, rfl⟩, rfl⟩⟩
theorem ok39 : TIok Try.prog 39 ti39 := ⟨⟨Try.t39, by kernel_rfl, rfl, rfl, (Go.Value.nilFunc), rfl, rfl, rfl⟩, ⟨_, Try.underlying39, by first | trivial | exact rfl | exact ⟨rfl, rfl⟩, rfl⟩⟩
theorem ok40 : TIok Try.prog 40 ti40 := ⟨⟨Try.t40, by kernel_rfl, rfl, rfl, (Go.Value.agg #[Go.Value.int Go.IntKind.i64 0, Go.Value.int Go.IntKind.i64 0, Go.Value.int Go.IntKind.i64 0, Go.Value.int Go.IntKind.i64 0, Go.Value.int Go.IntKind.i64 0, Go.Value.int Go.IntKind.i64 0]), rfl, rfl, rfl⟩, ⟨_, Try.underlying40, by first | trivial | exact rfl | exact ⟨rfl, rfl⟩, rfl⟩⟩
theorem ok41 : TIok Try.prog 41 ti41 := ⟨⟨Try.t41, by kernel_rfl, rfl, rfl, (Go.Value.agg #[Go.Value.int Go.IntKind.i64 0, Go.Value.int Go.IntKind.i64 0, Go.Value.int Go.IntKind.i64 0, Go.Value.int Go.IntKind.i64 0, Go.Value.int Go.IntKind.i64 0, Go.Value.int Go.IntKind.i64 0]), rfl, rfl, rfl⟩, ⟨_, Try.underlying41, by first | trivial | exact rfl | exact ⟨rfl, rfl⟩, rfl⟩⟩
theorem ok42 : TIok Try.prog 42 ti42 := ⟨⟨Try.t42, by kernel_rfl, rfl, rfl, (Go.Value.slice none 0 0), rfl, rfl, rfl⟩, ⟨_, Try.underlying42, by first | trivial | exact rfl | exact ⟨rfl, rfl⟩, rfl⟩⟩
theorem ok44 : TIok Try.prog 44 ti44 := ⟨⟨Try.t44, by kernel_rfl, rfl, rfl, (Go.Value.nilFunc), rfl, rfl, rfl⟩, ⟨_, Try.underlying44, by first | trivial | exact rfl | exact ⟨rfl, rfl⟩, rfl⟩⟩
theorem ok45 : TIok Try.prog 45 ti45 := ⟨⟨Try.t45, by kernel_rfl, rfl, rfl, (Go.Value.nilFunc), rfl, rfl, rfl⟩, ⟨_, Try.underlying45, by first | trivial | exact rfl | exact ⟨rfl, rfl⟩, rfl⟩⟩
theorem ok46 : TIok Try.prog 46 ti46 := ⟨⟨Try.t46, by kernel_rfl, rfl, rfl, (Go.Value.nilFunc), rfl, rfl, rfl⟩, ⟨_, Try.underlying46, by first | trivial | exact rfl | exact ⟨rfl, rfl⟩, rfl⟩⟩
theorem ok47 : TIok Try.prog 47 ti47 := ⟨⟨Try.t47, by kernel_rfl, rfl, rfl, (Go.Value.nilFunc), rfl, rfl, rfl⟩, ⟨_, Try.underlying47, by first | trivial | exact rfl | exact ⟨rfl, rfl⟩, rfl⟩⟩
theorem ok48 : TIok Try.prog 48 ti48 := ⟨⟨Try.t48, by kernel_rfl, rfl, rfl, (Go.Value.nilFunc), rfl, rfl, rfl⟩, ⟨_, Try.underlying48, by first | trivial | exact rfl | exact ⟨rfl, rfl⟩, rfl⟩⟩
theorem ok50 : TIok Try.prog 50 ti50 := ⟨⟨Try.t50, by kernel_rfl, rfl, rfl, (Go.Value.nilFunc), rfl, rfl, rfl⟩, ⟨_, Try.underlying50, by first | trivial | exact rfl | exact ⟨rfl, rfl⟩, rfl⟩⟩
theorem ok51 : TIok Try.prog 51 ti51 := ⟨⟨Try.t51, by kernel_rfl, rfl, rfl, (Go.Value.nilFunc), rfl, rfl, rfl⟩, ⟨_, Try.underlying51, by first | trivial | exact rfl | exact ⟨rfl, rfl⟩, rfl⟩⟩
theorem ok52 : TIok Try.prog 52 ti52 := ⟨⟨Try.t52, by kernel_rfl, rfl, rfl, (Go.Value.nilFunc), rfl, rfl, rfl⟩, ⟨_, Try.underlying52, by first | trivial | exact rfl | exact ⟨rfl, rfl⟩, rfl⟩⟩
theorem ok53 : TIok Try.prog 53 ti53 := ⟨⟨Try.t53, by kernel_rfl, rfl, rfl, (Go.Value.nilFunc), rfl, rfl, rfl⟩, ⟨_, Try.underlying53, by first | trivial | exact rfl | exact ⟨rfl, rfl⟩, rfl⟩⟩
theorem ok54 : TIok Try.prog 54 ti54 := ⟨⟨Try.t54, by kernel_rfl, rfl, rfl, (Go.Value.nilFunc), rfl, rfl, rfl⟩, ⟨_, Try.underlying54, by first | trivial | exact rfl | exact ⟨rfl, rfl⟩, rfl⟩⟩
theorem ok55 : TIok Try.prog 55 ti55 := ⟨⟨Try.t55, by kernel_rfl, rfl, rfl, (Go.Value.nilFunc), rfl, rfl, rfl⟩, ⟨_, Try.underlying55, by first | trivial | exact rfl | exact ⟨rfl, rfl⟩, rfl⟩⟩
theorem ok56 : TIok Try.prog 56 ti56 := ⟨⟨Try.t56, by kernel_rfl, rfl, rfl, (Go.Value.nilFunc), rfl, rfl, rfl⟩, ⟨_, Try.underlying56, by first | trivial | exact rfl | exact ⟨rfl, rfl⟩, rfl⟩⟩
theorem ok57 : TIok Try.prog 57 ti57 := ⟨⟨Try.t57, by kernel_rfl, rfl, rfl, (Go.Value.agg #[Go.Value.int Go.IntKind.i64 0, Go.Value.int Go.IntKind.i64 0]), rfl, rfl, rfl⟩, ⟨_, Try.underlying57, by first | trivial | exact rfl | exact ⟨rfl, rfl⟩, rfl⟩⟩
theorem ok58 : TIok Try.prog 58 ti58 := ⟨⟨Try.t58, by kernel_rfl, rfl, rfl, (Go.Value.agg #[Go.Value.int Go.IntKind.i64 0, Go.Value.int Go.IntKind.i64 0]), rfl, rfl, rfl⟩, ⟨_, Try.underlying58, by first | trivial | exact rfl | exact ⟨rfl, rfl⟩, rfl⟩⟩
theorem ok59 : TIok Try.prog 59 ti59 := ⟨⟨Try.t59, by kernel_rfl, rfl, rfl, (Go.Value.agg #[Go.Value.int Go.IntKind.i64 0, Go.Value.int Go.IntKind.i64 0, Go.Value.int Go.IntKind.i64 0, Go.Value.int Go.IntKind.i64 0]), rfl, rfl, rfl⟩, ⟨_, Try.underlying59, by first | trivial | exact rfl | exact ⟨rfl, rfl⟩, rfl⟩⟩
theorem ok60 : TIok Try.prog 60 ti60 := ⟨⟨Try.t60, by kernel_rfl, rfl, rfl, (Go.Value.agg #[Go.Value.int Go.IntKind.i64 0, Go.Value.int Go.IntKind.i64 0, Go.Value.int Go.IntKind.i64 0, Go.Value.int Go.IntKind.i64 0]), rfl, rfl, rfl⟩, ⟨_, Try.underlying60, by first | trivial | exact rfl | exact ⟨rfl, rfl⟩, rfl⟩⟩
theorem ok61 : TIok Try.prog 61 ti61 := ⟨⟨Try.t61, by kernel_rfl, rfl, rfl, (Go.Value.nilFunc), rfl, rfl, rfl⟩, ⟨_, Try.underlying61, by first | trivial | exact rfl | exact ⟨rfl, rfl⟩, rfl⟩⟩
theorem ok62 : TIok Try.prog 62 ti62 := ⟨⟨Try.t62, by kernel_rfl, rfl, rfl, (Go.Value.agg #[Go.Value.int Go.IntKind.i64 0, Go.Value.int Go.IntKind.i64 0, Go.Value.slice none 0 0]), rfl, rfl, rfl⟩, ⟨_, Try.underlying62, by first | trivial | exact rfl | exact ⟨rfl, rfl⟩, rfl⟩⟩
theorem ok63 : TIok Try.prog 63 ti63 := ⟨⟨Try.t63, by kernel_rfl, rfl, rfl, (Go.Value.agg #[Go.Value.int Go.IntKind.i64 0, Go.Value.int Go.IntKind.i64 0, Go.Value.slice none 0 0]), rfl, rfl, rfl⟩, ⟨_, Try.underlying63, by first | trivial | exact rfl | exact ⟨rfl, rfl⟩, rfl⟩⟩
theorem ok64 : TIok Try.prog 64 ti64 := ⟨⟨Try.t64, by kernel_rfl, rfl, rfl, (Go.Value.nilFunc), rfl, rfl, rfl⟩, ⟨_, Try.underlying64, by first | trivial | exact rfl | exact ⟨rfl, rfl⟩, rfl⟩⟩
theorem ok65 : TIok Try.prog 65 ti65 := ⟨⟨Try.t65, by kernel_rfl, rfl, rfl, (Go.Value.nilFunc), rfl, rfl, rfl⟩, ⟨_, Try.underlying65, by first | trivial | exact rfl | exact ⟨rfl, rfl⟩, rfl⟩⟩
theorem ok66 : TIok Try.prog 66 ti66 := ⟨⟨Try.t66, by kernel_rfl, rfl, rfl, (Go.Value.nilFunc), rfl, rfl, rfl⟩, ⟨_, Try.underlying66, by first | trivial | exact rfl | exact ⟨rfl, rfl⟩, rfl⟩⟩
theorem ok67 : TIok Try.prog 67 ti67 := ⟨⟨Try.t67, by kernel_rfl, rfl, rfl, (Go.Value.nilFunc), rfl, rfl, rfl⟩, ⟨_, Try.underlying67, by first | trivial | exact rfl | exact ⟨rfl, rfl⟩, rfl⟩⟩
theorem ok69 : TIok Try.prog 69 ti69 := ⟨⟨Try.t69, by kernel_rfl, rfl, rfl, (Go.Value.nilFunc), rfl, rfl, rfl⟩, ⟨_, Try.underlying69, by first | trivial | exact rfl | exact ⟨rfl, rfl⟩, rfl⟩⟩
theorem ok70 : TIok Try.prog 70 ti70 := ⟨⟨Try.t70, by kernel_rfl, rfl, rfl, (Go.Value.nilFunc), rfl, rfl, rfl⟩, ⟨_, Try.underlying70, by first | trivial | exact rfl | exact ⟨rfl, rfl⟩, rfl⟩⟩
theorem ok71 : TIok Try.prog 71 ti71 := ⟨⟨Try.t71, by kernel_rfl, rfl, rfl, (Go.Value.agg #[Go.Value.slice none 0 0, Go.Value.int Go.IntKind.i64 0]), rfl, rfl, rfl⟩, ⟨_, Try.underlying71, by first | trivial | exact rfl | exact ⟨rfl, rfl⟩, rfl⟩⟩
theorem ok72 : TIok Try.prog 72 ti72 := ⟨⟨Try.t72, by kernel_rfl, rfl, rfl, (Go.Value.agg #[Go.Value.slice none 0 0, Go.Value.int Go.IntKind.i64 0]), rfl, rfl, rfl⟩, ⟨_, Try.underlying72, by first | trivial | exact rfl | exact ⟨rfl, rfl⟩, rfl⟩⟩
theorem ok74 : TIok Try.prog 74 ti74 := ⟨⟨Try.t74, by kernel_rfl, rfl, rfl, (Go.Value.nilFunc), rfl, rfl, rfl⟩, ⟨_, Try.underlying74, by first | trivial | exact rfl | exact ⟨rfl, rfl⟩, rfl⟩⟩
theorem ok75 : TIok Try.prog 75 ti75 := ⟨⟨Try.t75, by kernel_rfl, rfl, rfl, (Go.Value.nilFunc), rfl, rfl, rfl⟩, ⟨_, Try.underlying75, by first | trivial | exact rfl | exact ⟨rfl, rfl⟩, rfl⟩⟩
theorem ok76 : TIok Try.prog 76 ti76 := ⟨⟨Try.t76, by kernel_rfl, rfl, rfl, (Go.Value.nilFunc), rfl, rfl, rfl⟩, ⟨_, Try.underlying76, by first | trivial | exact rfl | exact ⟨rfl, rfl⟩, rfl⟩⟩
theorem ok77 : TIok Try.prog 77 ti77 := ⟨⟨Try.t77, by kernel_rfl, rfl, rfl, (Go.Value.agg #[Go.Value.int Go.IntKind.i64 0, Go.Value.int Go.IntKind.i64 0, Go.Value.int Go.IntKind.i64 0, Go.Value.int Go.IntKind.i64 0, Go.Value.int Go.IntKind.i64 0, Go.Value.int Go.IntKind.i64 0, Go.Value.int Go.IntKind.i64 0, Go.Value.int Go.IntKind.i64 0]), rfl, rfl, rfl⟩, ⟨_, Try.underlying77, by first | trivial | exact rfl | exact ⟨rfl, rfl⟩, rfl⟩⟩
theorem ok78 : TIok Try.prog 78 ti78 := ⟨⟨Try.t78, by kernel_rfl, rfl, rfl, (Go.Value.nilFunc), rfl, rfl, rfl⟩, ⟨_, Try.underlying78, by first | trivial | exact rfl | exact ⟨rfl, rfl⟩, rfl⟩⟩
theorem ok79 : TIok Try.prog 79 ti79 := ⟨⟨Try.t79, by kernel_rfl, rfl, rfl, (Go.Value.nilFunc), rfl, rfl, rfl⟩, ⟨_, Try.underlying79, by first | trivial | exact rfl | exact ⟨rfl, rfl⟩, rfl⟩⟩
theorem ok80 : TIok Try.prog 80 ti80 := ⟨⟨Try.t80, by kernel_rfl, rfl, rfl, (Go.Value.slice none 0 0), rfl, rfl, rfl⟩, ⟨_, Try.underlying80, by first | trivial | exact rfl | exact ⟨rfl, rfl⟩, rfl⟩⟩
theorem ok81 : TIok Try.prog 81 ti81 := ⟨⟨Try.t81, by kernel_rfl, rfl, rfl, (Go.Value.agg #[Go.Value.int Go.IntKind.i64 0, Go.Value.slice none 0 0]), rfl, rfl, rfl⟩, ⟨_, Try.underlying81, by first | trivial | exact rfl | exact ⟨rfl, rfl⟩, rfl⟩⟩
theorem ok82 : TIok Try.prog 82 ti82 := ⟨⟨Try.t82, by kernel_rfl, rfl, rfl, (Go.Value.agg #[Go.Value.int Go.IntKind.i64 0, Go.Value.slice none 0 0]), rfl, rfl, rfl⟩, ⟨_, Try.underlying82, by first | trivial | exact rfl | exact ⟨rfl, rfl⟩, rfl⟩⟩
theorem ok83 : TIok Try.prog 83 ti83 := ⟨⟨Try.t83, by kernel_rfl, rfl, rfl, (Go.Value.nilFunc), rfl, rfl, rfl⟩, ⟨_, Try.underlying83, by first | trivial | exact rfl | exact ⟨rfl, rfl⟩, rfl⟩⟩
theorem ok84 : TIok Try.prog 84 ti84 := ⟨⟨Try.t84, by kernel_rfl, rfl, rfl, (Go.Value.nilFunc), rfl, rfl, rfl⟩, ⟨_, Try.underlying84, by first | trivial | exact rfl | exact ⟨rfl, rfl⟩, rfl⟩⟩
theorem ok85 : TIok Try.prog 85 ti85 := ⟨⟨Try.t85, by kernel_rfl, rfl, rfl, (Go.Value.agg #[Go.Value.int Go.IntKind.i64 0, Go.Value.int Go.IntKind.i64 0, Go.Value.slice none 0 0]), rfl, rfl, rfl⟩, ⟨_, Try.underlying85, by first | trivial | exact rfl | exact ⟨rfl, rfl⟩, rfl⟩⟩
theorem ok86 : TIok Try.prog 86 ti86 := ⟨⟨Try.t86, by kernel_rfl, rfl, rfl, (Go.Value.agg #[Go.Value.int Go.IntKind.i64 0, Go.Value.int Go.IntKind.i64 0, Go.Value.slice none 0 0]), rfl, rfl, rfl⟩, ⟨_, Try.underlying86, by first | trivial | exact rfl | exact ⟨rfl, rfl⟩, rfl⟩⟩
theorem ok87 : TIok Try.prog 87 ti87 := ⟨⟨Try.t87, by kernel_rfl, rfl, rfl, (Go.Value.nilFunc), rfl, rfl, rfl⟩, ⟨_, Try.underlying87, by first | trivial | exact rfl | exact ⟨rfl, rfl⟩, rfl⟩⟩
theorem ok88 : TIok Try.prog 88 ti88 := ⟨⟨Try.t88, by kernel_rfl, rfl, rfl, (Go.Value.nilFunc), rfl, rfl, rfl⟩, ⟨_, Try.underlying88, by first | trivial | exact rfl | exact ⟨rfl, rfl⟩, rfl⟩⟩
theorem ok89 : TIok Try.prog 89 ti89 := ⟨⟨Try.t89, by kernel_rfl, rfl, rfl, (Go.Value.nilFunc), rfl, rfl, rfl⟩, ⟨_, Try.underlying89, by first | trivial | exact rfl | exact ⟨rfl, rfl⟩, rfl⟩⟩
theorem ok90 : TIok Try.prog 90 ti90 := ⟨⟨Try.t90, by kernel_rfl, rfl, rfl, (Go.Value.nilFunc), rfl, rfl, rfl⟩, ⟨_, Try.underlying90, by first | trivial | exact rfl | exact ⟨rfl, rfl⟩, rfl⟩⟩
theorem ok91 : TIok Try.prog 91 ti91 := ⟨⟨Try.t91, by kernel_rfl, rfl, rfl, (Go.Value.agg #[Go.Value.int Go.IntKind.i64 0, Go.Value.int Go.IntKind.i64 0]), rfl, rfl, rfl⟩, ⟨_, Try.underlying91, by first | trivial | exact rfl | exact ⟨rfl, rfl⟩, rfl⟩⟩
theorem ok92 : TIok Try.prog 92 ti92 := ⟨⟨Try.t92, by kernel_rfl, rfl, rfl, (Go.Value.nilFunc), rfl, rfl, rfl⟩, ⟨_, Try.underlying92, by first | trivial | exact rfl | exact ⟨rfl, rfl⟩, rfl⟩⟩
theorem ok93 : TIok Try.prog 93 ti93 := ⟨⟨Try.t93, by kernel_rfl, rfl, rfl, (Go.Value.nilFunc), rfl, rfl, rfl⟩, ⟨_, Try.underlying93, by first | trivial | exact rfl | exact ⟨rfl, rfl⟩, rfl⟩⟩
theorem ok94 : TIok Try.prog 94 ti94 := ⟨⟨Try.t94, by kernel_rfl, rfl, rfl, (Go.Value.nilFunc), rfl, rfl, rfl⟩, ⟨_, Try.underlying94, by first | trivial | exact rfl | exact ⟨rfl, rfl⟩, rfl⟩⟩
theorem ok95 : TIok Try.prog 95 ti95 := ⟨⟨Try.t95, by kernel_rfl, rfl, rfl, (Go.Value.nilFunc), rfl, rfl, rfl⟩, ⟨_, Try.underlying95, by first | trivial | exact rfl | exact ⟨rfl, rfl⟩, rfl⟩⟩
theorem ok96 : TIok Try.prog 96 ti96 := ⟨⟨Try.t96, by kernel_rfl, rfl, rfl, (Go.Value.nilFunc), rfl, rfl, rfl⟩, ⟨_, Try.underlying96, by first | trivial | exact rfl | exact ⟨rfl, rfl⟩, rfl⟩⟩
theorem ok97 : TIok Try.prog 97 ti97 := ⟨⟨Try.t97, by kernel_rfl, rfl, rfl, (Go.Value.nilFunc), rfl, rfl, rfl⟩, ⟨_, Try.underlying97, by first | trivial | exact rfl | exact ⟨rfl, rfl⟩, rfl⟩⟩
theorem ok98 : TIok Try.prog 98 ti98 := ⟨⟨Try.t98, by kernel_rfl, rfl, rfl, (Go.Value.nilFunc), rfl, rfl, rfl⟩, ⟨_, Try.underlying98, by first | trivial | exact rfl | exact ⟨rfl, rfl⟩, rfl⟩⟩
theorem ok99 : TIok Try.prog 99 ti99 := ⟨⟨Try.t99, by kernel_rfl, rfl, rfl, (Go.Value.nilFunc), rfl, rfl, rfl⟩, ⟨_, Try.underlying99, by first | trivial | exact rfl | exact ⟨rfl, rfl⟩, rfl⟩⟩
theorem ok100 : TIok Try.prog 100 ti100 := ⟨⟨Try.t100, by kernel_rfl, rfl, rfl, (Go.Value.nilFunc), rfl, rfl, rfl⟩, ⟨_, Try.underlying100, by first | trivial | exact rfl | exact ⟨rfl, rfl⟩, rfl⟩⟩
theorem ok101 : TIok Try.prog 101 ti101 := ⟨⟨Try.t101, by kernel_rfl, rfl, rfl, (Go.Value.nilFunc), rfl, rfl, rfl⟩, ⟨_, Try.underlying101, by first | trivial | exact rfl | exact ⟨rfl, rfl⟩, rfl⟩⟩
theorem ok102 : TIok Try.prog 102 ti102 := ⟨⟨Try.t102, by kernel_rfl, rfl, rfl, (Go.Value.nilFunc), rfl, rfl, rfl⟩, ⟨_, Try.underlying102, by first | trivial | exact rfl | exact ⟨rfl, rfl⟩, rfl⟩⟩
theorem ok104 : TIok Try.prog 104 ti104 := ⟨⟨Try.t104, by kernel_rfl, rfl, rfl, (Go.Value.nilFunc), rfl, rfl, rfl⟩, ⟨_, Try.underlying104, by first | trivial | exact rfl | exact ⟨rfl, rfl⟩, rfl⟩⟩
theorem ok105 : TIok Try.prog 105 ti105 := ⟨⟨Try.t105, by kernel_rfl, rfl, rfl, (Go.Value.nilFunc), rfl, rfl, rfl⟩, ⟨_, Try.underlying105, by first | trivial | exact rfl | exact ⟨rfl, rfl⟩, rfl⟩⟩
theorem ok106 : TIok Try.prog 106 ti106 := ⟨⟨Try.t106, by kernel_rfl, rfl, rfl, (Go.Value.nilFunc), rfl, rfl, rfl⟩, ⟨_, Try.underlying106, by first | trivial | exact rfl | exact ⟨rfl, rfl⟩, rfl⟩⟩
theorem ok107 : TIok Try.prog 107 ti107 := ⟨⟨Try.t107, by kernel_rfl, rfl, rfl, (Go.Value.nilFunc), rfl, rfl, rfl⟩, ⟨_, Try.underlying107, by first | trivial | exact rfl | exact ⟨rfl, rfl⟩, rfl⟩⟩
theorem ok108 : TIok Try.prog 108 ti108 := ⟨⟨Try.t108, by kernel_rfl, rfl, rfl, (Go.Value.nilFunc), rfl, rfl, rfl⟩, ⟨_, Try.underlying108, by first | trivial | exact rfl | exact ⟨rfl, rfl⟩, rfl⟩⟩
theorem ok109 : TIok Try.prog 109 ti109 := ⟨⟨Try.t109, by kernel_rfl, rfl, rfl, (Go.Value.nilFunc), rfl, rfl, rfl⟩, ⟨_, Try.underlying109, by first | trivial | exact rfl | exact ⟨rfl, rfl⟩, rfl⟩⟩
theorem ok110 : TIok Try.prog 110 ti110 := ⟨⟨Try.t110, by kernel_rfl, rfl, rfl, (Go.Value.slice none 0 0), rfl, rfl, rfl⟩, ⟨_, Try.underlying110, by first | trivial | exact rfl | exact ⟨rfl, rfl⟩, rfl⟩⟩
theorem ok111 : TIok Try.prog 111 ti111 := ⟨⟨Try.t111, by kernel_rfl, rfl, rfl, (Go.Value.nilFunc), rfl, rfl, rfl⟩, ⟨_, Try.underlying111, by first | trivial | exact rfl | exact ⟨rfl, rfl⟩, rfl⟩⟩
theorem ok112 : TIok Try.prog 112 ti112 := ⟨⟨Try.t112, by kernel_rfl, rfl, rfl, (Go.Value.nilFunc), rfl, rfl, rfl⟩, ⟨_, Try.underlying112, by first | trivial | exact rfl | exact ⟨rfl, rfl⟩, rfl⟩⟩
theorem ok113 : TIok Try.prog 113 ti113 := ⟨⟨Try.t113, by kernel_rfl, rfl, rfl, (Go.Value.nilFunc), rfl, rfl, rfl⟩, ⟨_, Try.underlying113, by first | trivial | exact rfl | exact ⟨rfl, rfl⟩, rfl⟩⟩
theorem ok114 : TIok Try.prog 114 ti114 := ⟨⟨Try.t114, by kernel_rfl, rfl, rfl, (Go.Value.nilFunc), rfl, rfl, rfl⟩, ⟨_, Try.underlying114, by first | trivial | exact rfl | exact ⟨rfl, rfl⟩, rfl⟩⟩
theorem ok115 : TIok Try.prog 115 ti115 := ⟨⟨Try.t115, by kernel_rfl, rfl, rfl, (Go.Value.nilFunc), rfl, rfl, rfl⟩, ⟨_, Try.underlying115, by first | trivial | exact rfl | exact ⟨rfl, rfl⟩, rfl⟩⟩
theorem ok116 : TIok Try.prog 116 ti116 := ⟨⟨Try.t116, by kernel_rfl, rfl, rfl, (Go.Value.nilFunc), rfl, rfl, rfl⟩, ⟨_, Try.underlying116, by first | trivial | exact rfl | exact ⟨rfl, rfl⟩, rfl⟩⟩
theorem ok117 : TIok Try.prog 117 ti117 := ⟨⟨Try.t117, by kernel_rfl, rfl, rfl, (Go.Value.nilFunc), rfl, rfl, rfl⟩, ⟨_, Try.underlying117, by first | trivial | exact rfl | exact ⟨rfl, rfl⟩, rfl⟩⟩
theorem ok118 : TIok Try.prog 118 ti118 := ⟨⟨Try.t118, by kernel_rfl, rfl, rfl, (Go.Value.nilFunc), rfl, rfl, rfl⟩, ⟨_, Try.underlying118, by first | trivial | exact rfl | exact ⟨rfl, rfl⟩, rfl⟩⟩
theorem ok119 : TIok Try.prog 119 ti119 := ⟨⟨Try.t119, by kernel_rfl, rfl, rfl, (Go.Value.nilFunc), rfl, rfl, rfl⟩, ⟨_, Try.underlying119, by first | trivial | exact rfl | exact ⟨rfl, rfl⟩, rfl⟩⟩
theorem ok120 : TIok Try.prog 120 ti120 := ⟨⟨Try.t120, by kernel_rfl, rfl, rfl, (Go.Value.nilFunc), rfl, rfl, rfl⟩, ⟨_, Try.underlying120, by first | trivial | exact rfl | exact ⟨rfl, rfl⟩, rfl⟩⟩
theorem ok121 : TIok Try.prog 121 ti121 := ⟨⟨Try.t121, by kernel_rfl, rfl, rfl, (Go.Value.nilFunc), rfl, rfl, rfl⟩, ⟨_, Try.underlying121, by first | trivial | exact rfl | exact ⟨rfl, rfl⟩, rfl⟩⟩
theorem ok122 : TIok Try.prog 122 ti122 := ⟨⟨Try.t122, by kernel_rfl, rfl, rfl, (Go.Value.nilFunc), rfl, rfl, rfl⟩, ⟨_, Try.underlying122, by first | trivial | exact rfl | exact ⟨rfl, rfl⟩, rfl⟩⟩
theorem ok123 : TIok Try.prog 123 ti123 := ⟨⟨Try.t123, by kernel_rfl, rfl, rfl, (Go.Value.nilFunc), rfl, rfl, rfl⟩, ⟨_, Try.underlying123, by first | trivial | exact rfl | exact ⟨rfl, rfl⟩, rfl⟩⟩
theorem ok124 : TIok Try.prog 124 ti124 := ⟨⟨Try.t124, by kernel_rfl, rfl, rfl, (Go.Value.nilFunc), rfl, rfl, rfl⟩, ⟨_, Try.underlying124, by first | trivial | exact rfl | exact ⟨rfl, rfl⟩, rfl⟩⟩
theorem ok125 : TIok Try.prog 125 ti125 := ⟨⟨Try.t125, by kernel_rfl, rfl, rfl, (Go.Value.nilFunc), rfl, rfl, rfl⟩, ⟨_, Try.underlying125, by first | trivial | exact rfl | exact ⟨rfl, rfl⟩, rfl⟩⟩
theorem ok126 : TIok Try.prog 126 ti126 := ⟨⟨Try.t126, by kernel_rfl, rfl, rfl, (Go.Value.slice none 0 0), rfl, rfl, rfl⟩, ⟨_, Try.underlying126, by first | trivial | exact rfl | exact ⟨rfl, rfl⟩, rfl⟩⟩
theorem ok127 : TIok Try.prog 127 ti127 := ⟨⟨Try.t127, by kernel_rfl, rfl, rfl, (Go.Value.nilFunc), rfl, rfl, rfl⟩, ⟨_, Try.underlying127, by first | trivial | exact rfl | exact ⟨rfl, rfl⟩, rfl⟩⟩
theorem ok128 : TIok Try.prog 128 ti128 := ⟨⟨Try.t128, by kernel_rfl, rfl, rfl, (Go.Value.nilFunc), rfl, rfl, rfl⟩, ⟨_, Try.underlying128, by first | trivial | exact rfl | exact ⟨rfl, rfl⟩, rfl⟩⟩
theorem ok129 : TIok Try.prog 129 ti129 := ⟨⟨Try.t129, by kernel_rfl, rfl, rfl, (Go.Value.nilFunc), rfl, rfl, rfl⟩, ⟨_, Try.underlying129, by first | trivial | exact rfl | exact ⟨rfl, rfl⟩, rfl⟩⟩
theorem ok130 : TIok Try.prog 130 ti130 := ⟨⟨Try.t130, by kernel_rfl, rfl, rfl, (Go.Value.nilFunc), rfl, rfl, rfl⟩, ⟨_, Try.underlying130, by first | trivial | exact rfl | exact ⟨rfl, rfl⟩, rfl⟩⟩
theorem ok131 : TIok Try.prog 131 ti131 := ⟨⟨Try.t131, by kernel_rfl, rfl, rfl, (Go.Value.nilFunc), rfl, rfl, rfl⟩, ⟨_, Try.underlying131, by first | trivial | exact rfl | exact ⟨rfl, rfl⟩, rfl⟩⟩
theorem ok132 : TIok Try.prog 132 ti132 := ⟨⟨Try.t132, by kernel_rfl, rfl, rfl, (Go.Value.nilFunc), rfl, rfl, rfl⟩, ⟨_, Try.underlying132, by first | trivial | exact rfl | exact ⟨rfl, rfl⟩, rfl⟩⟩
theorem ok133 : TIok Try.prog 133 ti133 := ⟨⟨Try.t133, by kernel_rfl, rfl, rfl, (Go.Value.nilFunc), rfl, rfl, rfl⟩, ⟨_, Try.underlying133, by first | trivial | exact rfl | exact ⟨rfl, rfl⟩, rfl⟩⟩
theorem ok134 : TIok Try.prog 134 ti134 := ⟨⟨Try.t134, by kernel_rfl, rfl, rfl, (Go.Value.slice none 0 0), rfl, rfl, rfl⟩, ⟨_, Try.underlying134, by first | trivial | exact rfl | exact ⟨rfl, rfl⟩, rfl⟩⟩
theorem ok135 : TIok Try.prog 135 ti135 := ⟨⟨Try.t135, by kernel_rfl, rfl, rfl, (Go.Value.nilFunc), rfl, rfl, rfl⟩, ⟨_, Try.underlying135, by first | trivial | exact rfl | exact ⟨rfl, rfl⟩, rfl⟩⟩
theorem ok136 : TIok Try.prog 136 ti136 := ⟨⟨Try.t136, by kernel_rfl, rfl, rfl, (Go.Value.nilFunc), rfl, rfl, rfl⟩, ⟨_, Try.underlying136, by first | trivial | exact rfl | exact ⟨rfl, rfl⟩, rfl⟩⟩
theorem ok137 : TIok Try.prog 137 ti137 := ⟨⟨Try.t137, by kernel_rfl, rfl, rfl, (Go.Value.nilFunc), rfl, rfl, rfl⟩, ⟨_, Try.underlying137, by first | trivial | exact rfl | exact ⟨rfl, rfl⟩, rfl⟩⟩
theorem ok138 : TIok Try.prog 138 ti138 := ⟨⟨Try.t138, by kernel_rfl, rfl, rfl, (Go.Value.nilFunc), rfl, rfl, rfl⟩, ⟨_, Try.underlying138, by first | trivial | exact rfl | exact ⟨rfl, rfl⟩, rfl⟩⟩
theorem ok139 : TIok Try.prog 139 ti139 := ⟨⟨Try.t139, by kernel_rfl, rfl, rfl, (Go.Value.agg #[Go.Value.int Go.IntKind.i64 0, Go.Value.int Go.IntKind.i64 0]), rfl, rfl, rfl⟩, ⟨_, Try.underlying139, by first | trivial | exact rfl | exact ⟨rfl, rfl⟩, rfl⟩⟩
theorem ok140 : TIok Try.prog 140 ti140 := ⟨⟨Try.t140, by kernel_rfl, rfl, rfl, (Go.Value.agg #[Go.Value.int Go.IntKind.i64 0, Go.Value.int Go.IntKind.i64 0]), rfl, rfl, rfl⟩, ⟨_, Try.underlying140, by first | trivial | exact rfl | exact ⟨rfl, rfl⟩, rfl⟩⟩
theorem ok141 : TIok Try.prog 141 ti141 := ⟨⟨Try.t141, by kernel_rfl, rfl, rfl, (Go.Value.nilFunc), rfl, rfl, rfl⟩, ⟨_, Try.underlying141, by first | trivial | exact rfl | exact ⟨rfl, rfl⟩, rfl⟩⟩
theorem ok142 : TIok Try.prog 142 ti142 := ⟨⟨Try.t142, by kernel_rfl, rfl, rfl, (Go.Value.nilFunc), rfl, rfl, rfl⟩, ⟨_, Try.underlying142, by first | trivial | exact rfl | exact ⟨rfl, rfl⟩, rfl⟩⟩
theorem ok143 : TIok Try.prog 143 ti143 := ⟨⟨Try.t143, by kernel_rfl, rfl, rfl, (Go.Value.nilFunc), rfl, rfl, rfl⟩, ⟨_, Try.underlying143, by first | trivial | exact rfl | exact ⟨rfl, rfl⟩, rfl⟩⟩
theorem ok144 : TIok Try.prog 144 ti144 := ⟨⟨Try.t144, by kernel_rfl, rfl, rfl, (Go.Value.nilFunc), rfl, rfl, rfl⟩, ⟨_, Try.underlying144, by first | trivial | exact rfl | exact ⟨rfl, rfl⟩, rfl⟩⟩
theorem ok145 : TIok Try.prog 145 ti145 := ⟨⟨Try.t145, by kernel_rfl, rfl, rfl, (Go.Value.nilIface), rfl, rfl, rfl⟩, ⟨_, Try.underlying145, by first | trivial | exact rfl | exact ⟨rfl, rfl⟩, rfl⟩⟩
theorem ok146 : TIok Try.prog 146 ti146 := ⟨⟨Try.t146, by kernel_rfl, rfl, rfl, (Go.Value.nilIface), rfl, rfl, rfl⟩, ⟨_, Try.underlying146, by first | trivial | exact rfl | exact ⟨rfl, rfl⟩, rfl⟩⟩
theorem ok147 : TIok Try.prog 147 ti147 := ⟨⟨Try.t147, by kernel_rfl, rfl, rfl, (Go.Value.nilFunc), rfl, rfl, rfl⟩, ⟨_, Try.underlying147, by first | trivial | exact rfl | exact ⟨rfl, rfl⟩, rfl⟩⟩
theorem ok148 : TIok Try.prog 148 ti148 := ⟨⟨Try.t148, by kernel_rfl, rfl, rfl, (Go.Value.nilFunc), rfl, rfl, rfl⟩, ⟨_, Try.underlying148, by first | trivial | exact rfl | exact ⟨rfl, rfl⟩, rfl⟩⟩
theorem ok149 : TIok Try.prog 149 ti149 := ⟨⟨Try.t149, by kernel_rfl, rfl, rfl, (Go.Value.nilFunc), rfl, rfl, rfl⟩, ⟨_, Try.underlying149, by first | trivial | exact rfl | exact ⟨rfl, rfl⟩, rfl⟩⟩
theorem ok150 : TIok Try.prog 150 ti150 := ⟨⟨Try.t150, by kernel_rfl, rfl, rfl, (Go.Value.nilFunc), rfl, rfl, rfl⟩, ⟨_, Try.underlying150, by first | trivial | exact rfl | exact ⟨rfl, rfl⟩, rfl⟩⟩
theorem ok151 : TIok Try.prog 151 ti151 := ⟨⟨Try.t151, by kernel_rfl, rfl, rfl, (Go.Value.nilFunc), rfl, rfl, rfl⟩, ⟨_, Try.underlying151, by first | trivial | exact rfl | exact ⟨rfl, rfl⟩, rfl⟩⟩
theorem ok152 : TIok Try.prog 152 ti152 := ⟨⟨Try.t152, by kernel_rfl, rfl, rfl, (Go.Value.nilFunc), rfl, rfl, rfl⟩, ⟨_, Try.underlying152, by first | trivial | exact rfl | exact ⟨rfl, rfl⟩, rfl⟩⟩
theorem ok153 : TIok Try.prog 153 ti153 := ⟨⟨Try.t153, by kernel_rfl, rfl, rfl, (Go.Value.nilFunc), rfl, rfl, rfl⟩, ⟨_, Try.underlying153, by first | trivial | exact rfl | exact ⟨rfl, rfl⟩, rfl⟩⟩
theorem ok154 : TIok Try.prog 154 ti154 := ⟨⟨Try.t154, by kernel_rfl, rfl, rfl, (Go.Value.nilFunc), rfl, rfl, rfl⟩, ⟨_, Try.underlying154, by first | trivial | exact rfl | exact ⟨rfl, rfl⟩, rfl⟩⟩
theorem ok155 : TIok Try.prog 155 ti155 := ⟨⟨Try.t155, by kernel_rfl, rfl, rfl, (Go.Value.agg #[Go.Value.int Go.IntKind.i64 0, Go.Value.int Go.IntKind.i64 0, Go.Value.int Go.IntKind.i64 0]), rfl, rfl, rfl⟩, ⟨_, Try.underlying155, by first | trivial | exact rfl | exact ⟨rfl, rfl⟩, rfl⟩⟩
theorem ok156 : TIok Try.prog 156 ti156 := ⟨⟨Try.t156, by kernel_rfl, rfl, rfl, (Go.Value.nilFunc), rfl, rfl, rfl⟩, ⟨_, Try.underlying156, by first | trivial | exact rfl | exact ⟨rfl, rfl⟩, rfl⟩⟩
theorem ok157 : TIok Try.prog 157 ti157 := ⟨⟨Try.t157, by kernel_rfl, rfl, rfl, (Go.Value.pointer none), rfl, rfl, rfl⟩, ⟨_, Try.underlying157, by first | trivial | exact rfl | exact ⟨rfl, rfl⟩, rfl⟩⟩
theorem ok158 : TIok Try.prog 158 ti158 := ⟨⟨Try.t158, by kernel_rfl, rfl, rfl, (Go.Value.agg #[Go.Value.int Go.IntKind.i64 0]), rfl, rfl, rfl⟩, ⟨_, Try.underlying158, by first | trivial | exact rfl | exact ⟨rfl, rfl⟩, rfl⟩⟩
theorem ok159 : TIok Try.prog 159 ti159 := ⟨⟨Try.t159, by kernel_rfl, rfl, rfl, (Go.Value.agg #[Go.Value.int Go.IntKind.i64 0]), rfl, rfl, rfl⟩, ⟨_, Try.underlying159, by first | trivial | exact rfl | exact ⟨rfl, rfl⟩, rfl⟩⟩
theorem ok160 : TIok Try.prog 160 ti160 := ⟨⟨Try.t160, by kernel_rfl, rfl, rfl, (Go.Value.agg #[]), rfl, rfl, rfl⟩, ⟨_, Try.underlying160, by first | trivial | exact rfl | exact ⟨rfl, rfl⟩, rfl⟩⟩
theorem ok161 : TIok Try.prog 161 ti161 := ⟨⟨Try.t161, by kernel_rfl, rfl, rfl, (Go.Value.agg #[]), rfl, rfl, rfl⟩, ⟨_, Try.underlying161, by first | trivial | exact rfl | exact ⟨rfl, rfl⟩, rfl⟩⟩
theorem ok162 : TIok Try.prog 162 ti162 := ⟨⟨Try.t162, by kernel_rfl, rfl, rfl, (Go.Value.nilFunc), rfl, rfl, rfl⟩, ⟨_, Try.underlying162, by first | trivial | exact rfl | exact ⟨rfl, rfl⟩, rfl⟩⟩
theorem ok163 : TIok Try.prog 163 ti163 := ⟨⟨Try.t163, by kernel_rfl, rfl, rfl, (Go.Value.agg #[Go.Value.pointer none, Go.Value.pointer none, Go.Value.pointer none, Go.Value.string { data := #[] }]), rfl, rfl, rfl⟩, ⟨_, Try.underlying163, by first | trivial | exact rfl | exact ⟨rfl, rfl⟩, rfl⟩⟩
theorem ok164 : TIok Try.prog 164 ti164 := ⟨⟨Try.t164, by kernel_rfl, rfl, rfl, (Go.Value.agg #[Go.Value.pointer none, Go.Value.pointer none, Go.Value.pointer none, Go.Value.string { data := #[] }]), rfl, rfl, rfl⟩, ⟨_, Try.underlying164, by first | trivial | exact rfl | exact ⟨rfl, rfl⟩, rfl⟩⟩
theorem ok165 : TIok Try.prog 165 ti165 := ⟨⟨Try.t165, by kernel_rfl, rfl, rfl, (Go.Value.agg #[]), rfl, rfl, rfl⟩, ⟨_, Try.underlying165, by first | trivial | exact rfl | exact ⟨rfl, rfl⟩, rfl⟩⟩
theorem ok166 : TIok Try.prog 166 ti166 := ⟨⟨Try.t166, by kernel_rfl, rfl, rfl, (Go.Value.agg #[]), rfl, rfl, rfl⟩, ⟨_, Try.underlying166, by first | trivial | exact rfl | exact ⟨rfl, rfl⟩, rfl⟩⟩
theorem ok167 : TIok Try.prog 167 ti167 := ⟨⟨Try.t167, by kernel_rfl, rfl, rfl, (Go.Value.agg #[]), rfl, rfl, rfl⟩, ⟨_, Try.underlying167, by first | trivial | exact rfl | exact ⟨rfl, rfl⟩, rfl⟩⟩
theorem ok168 : TIok Try.prog 168 ti168 := ⟨⟨Try.t168, by kernel_rfl, rfl, rfl, (Go.Value.int Go.IntKind.u32 0), rfl, rfl, rfl⟩, ⟨_, Try.underlying168, by first | trivial | exact rfl | exact ⟨rfl, rfl⟩, rfl⟩⟩
theorem ok169 : TIok Try.prog 169 ti169 := ⟨⟨Try.t169, by kernel_rfl, rfl, rfl, (Go.Value.int Go.IntKind.u8 0), rfl, rfl, rfl⟩, ⟨_, Try.underlying169, by first | trivial | exact rfl | exact ⟨rfl, rfl⟩, rfl⟩⟩
theorem ok170 : TIok Try.prog 170 ti170 := ⟨⟨Try.t170, by kernel_rfl, rfl, rfl, (Go.Value.int Go.IntKind.u8 0), rfl, rfl, rfl⟩, ⟨_, Try.underlying170, by first | trivial | exact rfl | exact ⟨rfl, rfl⟩, rfl⟩⟩
theorem ok171 : TIok Try.prog 171 ti171 := ⟨⟨Try.t171, by kernel_rfl, rfl, rfl, (Go.Value.nilFunc), rfl, rfl, rfl⟩, ⟨_, Try.underlying171, by first | trivial | exact rfl | exact ⟨rfl, rfl⟩, rfl⟩⟩
theorem ok172 : TIok Try.prog 172 ti172 := ⟨⟨Try.t172, by kernel_rfl, rfl, rfl, (Go.Value.pointer none), rfl, rfl, rfl⟩, ⟨_, Try.underlying172, by first | trivial | exact rfl | exact ⟨rfl, rfl⟩, rfl⟩⟩
theorem ok173 : TIok Try.prog 173 ti173 := ⟨⟨Try.t173, by kernel_rfl, rfl, rfl, (Go.Value.int Go.IntKind.i32 0), rfl, rfl, rfl⟩, ⟨_, Try.underlying173, by first | trivial | exact rfl | exact ⟨rfl, rfl⟩, rfl⟩⟩
theorem ok174 : TIok Try.prog 174 ti174 := ⟨⟨Try.t174, by kernel_rfl, rfl, rfl, (Go.Value.int Go.IntKind.i32 0), rfl, rfl, rfl⟩, ⟨_, Try.underlying174, by first | trivial | exact rfl | exact ⟨rfl, rfl⟩, rfl⟩⟩
theorem ok175 : TIok Try.prog 175 ti175 := ⟨⟨Try.t175, by kernel_rfl, rfl, rfl, (Go.Value.agg #[Go.Value.int Go.IntKind.u64 0, Go.Value.int Go.IntKind.u64 0, Go.Value.int Go.IntKind.u32 0, Go.Value.int Go.IntKind.u8 0, Go.Value.int Go.IntKind.u8 0, Go.Value.int Go.IntKind.u8 0, Go.Value.int Go.IntKind.u8 0, Go.Value.nilFunc, Go.Value.pointer none, Go.Value.int Go.IntKind.i32 0, Go.Value.int Go.IntKind.i32 0]), rfl, rfl, rfl⟩, ⟨_, Try.underlying175, by first | trivial | exact rfl | exact ⟨rfl, rfl⟩, rfl⟩⟩
theorem ok176 : TIok Try.prog 176 ti176 := ⟨⟨Try.t176, by kernel_rfl, rfl, rfl, (Go.Value.agg #[Go.Value.int Go.IntKind.u64 0, Go.Value.int Go.IntKind.u64 0, Go.Value.int Go.IntKind.u32 0, Go.Value.int Go.IntKind.u8 0, Go.Value.int Go.IntKind.u8 0, Go.Value.int Go.IntKind.u8 0, Go.Value.int Go.IntKind.u8 0, Go.Value.nilFunc, Go.Value.pointer none, Go.Value.int Go.IntKind.i32 0, Go.Value.int Go.IntKind.i32 0]), rfl, rfl, rfl⟩, ⟨_, Try.underlying176, by first | trivial | exact rfl | exact ⟨rfl, rfl⟩, rfl⟩⟩
theorem ok177 : TIok Try.prog 177 ti177 := ⟨⟨Try.t177, by kernel_rfl, rfl, rfl, (Go.Value.nilFunc), rfl, rfl, rfl⟩, ⟨_, Try.underlying177, by first | trivial | exact rfl | exact ⟨rfl, rfl⟩, rfl⟩⟩
theorem ok178 : TIok Try.prog 178 ti178 := ⟨⟨Try.t178, by kernel_rfl, rfl, rfl, (Go.Value.nilFunc), rfl, rfl, rfl⟩, ⟨_, Try.underlying178, by first | trivial | exact rfl | exact ⟨rfl, rfl⟩, rfl⟩⟩
theorem ok179 : TIok Try.prog 179 ti179 := ⟨⟨Try.t179, by kernel_rfl, rfl, rfl, (Go.Value.nilFunc), rfl, rfl, rfl⟩, ⟨_, Try.underlying179, by first | trivial | exact rfl | exact ⟨rfl, rfl⟩, rfl⟩⟩
theorem ok180 : TIok Try.prog 180 ti180 := ⟨⟨Try.t180, by kernel_rfl, rfl, rfl, (Go.Value.nilFunc), rfl, rfl, rfl⟩, ⟨_, Try.underlying180, by first | trivial | exact rfl | exact ⟨rfl, rfl⟩, rfl⟩⟩
theorem ok181 : TIok Try.prog 181 ti181 := ⟨⟨Try.t181, by kernel_rfl, rfl, rfl, (Go.Value.nilFunc), rfl, rfl, rfl⟩, ⟨_, Try.underlying181, by first | trivial | exact rfl | exact ⟨rfl, rfl⟩, rfl⟩⟩
theorem ok182 : TIok Try.prog 182 ti182 := ⟨⟨Try.t182, by kernel_rfl, rfl, rfl, (Go.Value.nilFunc), rfl, rfl, rfl⟩, ⟨_, Try.underlying182, by first | trivial | exact rfl | exact ⟨rfl, rfl⟩, rfl⟩⟩
theorem ok183 : TIok Try.prog 183 ti183 := ⟨⟨Try.t183, by kernel_rfl, rfl, rfl, (Go.Value.nilFunc), rfl, rfl, rfl⟩, ⟨_, Try.underlying183, by first | trivial | exact rfl | exact ⟨rfl, rfl⟩, rfl⟩⟩
theorem ok184 : TIok Try.prog 184 ti184 := ⟨⟨Try.t184, by kernel_rfl, rfl, rfl, (Go.Value.nilFunc), rfl, rfl, rfl⟩, ⟨_, Try.underlying184, by first | trivial | exact rfl | exact ⟨rfl, rfl⟩, rfl⟩⟩
theorem ok185 : TIok Try.prog 185 ti185 := ⟨⟨Try.t185, by kernel_rfl, rfl, rfl, (Go.Value.int Go.IntKind.u64 0), rfl, rfl, rfl⟩, ⟨_, Try.underlying185, by first | trivial | exact rfl | exact ⟨rfl, rfl⟩, rfl⟩⟩
theorem ok186 : TIok Try.prog 186 ti186 := ⟨⟨Try.t186, by kernel_rfl, rfl, rfl, (Go.Value.nilFunc), rfl, rfl, rfl⟩, ⟨_, Try.underlying186, by first | trivial | exact rfl | exact ⟨rfl, rfl⟩, rfl⟩⟩
theorem ok187 : TIok Try.prog 187 ti187 := ⟨⟨Try.t187, by kernel_rfl, rfl, rfl, (Go.Value.int Go.IntKind.i64 0), rfl, rfl, rfl⟩, ⟨_, Try.underlying187, by first | trivial | exact rfl | exact ⟨rfl, rfl⟩, rfl⟩⟩
theorem ok189 : TIok Try.prog 189 ti189 := ⟨⟨Try.t189, by kernel_rfl, rfl, rfl, (Go.Value.nilFunc), rfl, rfl, rfl⟩, ⟨_, Try.underlying189, by first | trivial | exact rfl | exact ⟨rfl, rfl⟩, rfl⟩⟩
theorem ok190 : TIok Try.prog 190 ti190 := ⟨⟨Try.t190, by kernel_rfl, rfl, rfl, (Go.Value.nilFunc), rfl, rfl, rfl⟩, ⟨_, Try.underlying190, by first | trivial | exact rfl | exact ⟨rfl, rfl⟩, rfl⟩⟩
theorem ok191 : TIok Try.prog 191 ti191 := ⟨⟨Try.t191, by kernel_rfl, rfl, rfl, (Go.Value.nilFunc), rfl, rfl, rfl⟩, ⟨_, Try.underlying191, by first | trivial | exact rfl | exact ⟨rfl, rfl⟩, rfl⟩⟩
theorem ok193 : TIok Try.prog 193 ti193 := ⟨⟨Try.t193, by kernel_rfl, rfl, rfl, (Go.Value.nilFunc), rfl, rfl, rfl⟩, ⟨_, Try.underlying193, by first | trivial | exact rfl | exact ⟨rfl, rfl⟩, rfl⟩⟩
theorem ok194 : TIok Try.prog 194 ti194 := ⟨⟨Try.t194, by kernel_rfl, rfl, rfl, (Go.Value.nilFunc), rfl, rfl, rfl⟩, ⟨_, Try.underlying194, by first | trivial | exact rfl | exact ⟨rfl, rfl⟩, rfl⟩⟩
theorem ok195 : TIok Try.prog 195 ti195 := ⟨⟨Try.t195, by kernel_rfl, rfl, rfl, (Go.Value.nilFunc), rfl, rfl, rfl⟩, ⟨_, Try.underlying195, by first | trivial | exact rfl | exact ⟨rfl, rfl⟩, rfl⟩⟩
theorem ok196 : TIok Try.prog 196 ti196 := ⟨⟨Try.t196, by kernel_rfl, rfl, rfl, (Go.Value.int Go.IntKind.u64 0), rfl, rfl, rfl⟩, ⟨_, Try.underlying196, by first | trivial | exact rfl | exact ⟨rfl, rfl⟩, rfl⟩⟩
theorem ok197 : TIok Try.prog 197 ti197 := ⟨⟨Try.t197, by kernel_rfl, rfl, rfl, (Go.Value.int Go.IntKind.u64 0), rfl, rfl, rfl⟩, ⟨_, Try.underlying197, by first | trivial | exact rfl | exact ⟨rfl, rfl⟩, rfl⟩⟩
theorem ok198 : TIok Try.prog 198 ti198 := ⟨⟨Try.t198, by kernel_rfl, rfl, rfl, (Go.Value.nilFunc), rfl, rfl, rfl⟩, ⟨_, Try.underlying198, by first | trivial | exact rfl | exact ⟨rfl, rfl⟩, rfl⟩⟩
theorem ok199 : TIok Try.prog 199 ti199 := ⟨⟨Try.t199, by kernel_rfl, rfl, rfl, (Go.Value.nilFunc), rfl, rfl, rfl⟩, ⟨_, Try.underlying199, by first | trivial | exact rfl | exact ⟨rfl, rfl⟩, rfl⟩⟩
theorem ok200 : TIok Try.prog 200 ti200 := ⟨⟨Try.t200, by kernel_rfl, rfl, rfl, (Go.Value.nilFunc), rfl, rfl, rfl⟩, ⟨_, Try.underlying200, by first | trivial | exact rfl | exact ⟨rfl, rfl⟩, rfl⟩⟩
theorem ok201 : TIok Try.prog 201 ti201 := ⟨⟨Try.t201, by kernel_rfl, rfl, rfl, (Go.Value.pointer none), rfl, rfl, rfl⟩, ⟨_, Try.underlying201, by first | trivial | exact rfl | exact ⟨rfl, rfl⟩, rfl⟩⟩
theorem ok202 : TIok Try.prog 202 ti202 := ⟨⟨Try.t202, by kernel_rfl, rfl, rfl, (Go.Value.nilFunc), rfl, rfl, rfl⟩, ⟨_, Try.underlying202, by first | trivial | exact rfl | exact ⟨rfl, rfl⟩, rfl⟩⟩
theorem ok203 : TIok Try.prog 203 ti203 := ⟨⟨Try.t203, by kernel_rfl, rfl, rfl, (Go.Value.pointer none), rfl, rfl, rfl⟩, ⟨_, Try.underlying203, by first | trivial | exact rfl | exact ⟨rfl, rfl⟩, rfl⟩⟩
theorem ok204 : TIok Try.prog 204 ti204 := ⟨⟨Try.t204, by kernel_rfl, rfl, rfl, (Go.Value.nilFunc), rfl, rfl, rfl⟩, ⟨_, Try.underlying204, by first | trivial | exact rfl | exact ⟨rfl, rfl⟩, rfl⟩⟩
theorem tyAll : ∀ p ∈ tyL, TIok Try.prog p.1 p.2 := by
  unfold tyL
  refine List.forall_mem_cons.2 ⟨ok1, List.forall_mem_cons.2 ⟨ok2, List.forall_mem_cons.2 ⟨ok3, List.forall_mem_cons.2 ⟨ok4, List.forall_mem_cons.2 ⟨ok5, List.forall_mem_cons.2 ⟨ok6, List.forall_mem_cons.2 ⟨ok7, List.forall_mem_cons.2 ⟨ok8, List.forall_mem_cons.2 ⟨ok9, List.forall_mem_cons.2 ⟨ok10, List.forall_mem_cons.2 ⟨ok11, List.forall_mem_cons.2 ⟨ok12, List.forall_mem_cons.2 ⟨ok13, List.forall_mem_cons.2 ⟨ok14, List.forall_mem_cons.2 ⟨ok15, List.forall_mem_cons.2 ⟨ok16, List.forall_mem_cons.2 ⟨ok17, List.forall_mem_cons.2 ⟨ok18, List.forall_mem_cons.2 ⟨ok19, List.forall_mem_cons.2 ⟨ok20, List.forall_mem_cons.2 ⟨ok21, List.forall_mem_cons.2 ⟨ok22, List.forall_mem_cons.2 ⟨ok23, List.forall_mem_cons.2 ⟨ok24, List.forall_mem_cons.2 ⟨ok25, List.forall_mem_cons.2 ⟨ok26, List.forall_mem_cons.2 ⟨ok27, List.forall_mem_cons.2 ⟨ok29, List.forall_mem_cons.2 ⟨ok30, List.forall_mem_cons.2 ⟨ok31, List.forall_mem_cons.2 ⟨ok32, List.forall_mem_cons.2 ⟨ok34, List.forall_mem_cons.2 ⟨ok36, List.forall_mem_cons.2 ⟨ok37, List.forall_mem_cons.2 ⟨ok38, List.forall_mem_cons.2 ⟨ok39, List.forall_mem_cons.2 ⟨ok40, List.forall_mem_cons.2 ⟨ok41, List.forall_mem_cons.2 ⟨ok42, List.forall_mem_cons.2 ⟨ok44, List.forall_mem_cons.2 ⟨ok45, List.forall_mem_cons.2 ⟨ok46, List.forall_mem_cons.2 ⟨ok47, List.forall_mem_cons.2 ⟨ok48, List.forall_mem_cons.2 ⟨ok50, List.forall_mem_cons.2 ⟨ok51, List.forall_mem_cons.2 ⟨ok52, List.forall_mem_cons.2 ⟨ok53, List.forall_mem_cons.2 ⟨ok54, List.forall_mem_cons.2 ⟨ok55, List.forall_mem_cons.2 ⟨ok56, List.forall_mem_cons.2 ⟨ok57, List.forall_mem_cons.2 ⟨ok58, List.forall_mem_cons.2 ⟨ok59, List.forall_mem_cons.2 ⟨ok60, List.forall_mem_cons.2 ⟨ok61, List.forall_mem_cons.2 ⟨ok62, List.forall_mem_cons.2 ⟨ok63, List.forall_mem_cons.2 ⟨ok64, List.forall_mem_cons.2 ⟨ok65, List.forall_mem_cons.2 ⟨ok66, List.forall_mem_cons.2 ⟨ok67, List.forall_mem_cons.2 ⟨ok69, List.forall_mem_cons.2 ⟨ok70, List.forall_mem_cons.2 ⟨ok71, List.forall_mem_cons.2 ⟨ok72, List.forall_mem_cons.2 ⟨ok74, List.forall_mem_cons.2 ⟨ok75, List.forall_mem_cons.2 ⟨ok76, List.forall_mem_cons.2 ⟨ok77, List.forall_mem_cons.2 ⟨ok78, List.forall_mem_cons.2 ⟨ok79, List.forall_mem_cons.2 ⟨ok80, List.forall_mem_cons.2 ⟨ok81, List.forall_mem_cons.2 ⟨ok82, List.forall_mem_cons.2 ⟨ok83, List.forall_mem_cons.2 ⟨ok84, List.forall_mem_cons.2 ⟨ok85, List.forall_mem_cons.2 ⟨ok86, List.forall_mem_cons.2 ⟨ok87, List.forall_mem_cons.2 ⟨ok88, List.forall_mem_cons.2 ⟨ok89, List.forall_mem_cons.2 ⟨ok90, List.forall_mem_cons.2 ⟨ok91, List.forall_mem_cons.2 ⟨ok92, List.forall_mem_cons.2 ⟨ok93, List.forall_mem_cons.2 ⟨ok94, List.forall_mem_cons.2 ⟨ok95, List.forall_mem_cons.2 ⟨ok96, List.forall_mem_cons.2 ⟨ok97, List.forall_mem_cons.2 ⟨ok98, List.forall_mem_cons.2 ⟨ok99, List.forall_mem_cons.2 ⟨ok100, List.forall_mem_cons.2 ⟨ok101, List.forall_mem_cons.2 ⟨ok102, List.forall_mem_cons.2 ⟨ok104, List.forall_mem_cons.2 ⟨ok105, List.forall_mem_cons.2 ⟨ok106, List.forall_mem_cons.2 ⟨ok107, List.forall_mem_cons.2 ⟨ok108, List.forall_mem_cons.2 ⟨ok109, List.forall_mem_cons.2 ⟨ok110, List.forall_mem_cons.2 ⟨ok111, List.forall_mem_cons.2 ⟨ok112, List.forall_mem_cons.2 ⟨ok113, List.forall_mem_cons.2 ⟨ok114, List.forall_mem_cons.2 ⟨ok115, List.forall_mem_cons.2 ⟨ok116, List.forall_mem_cons.2 ⟨ok117, List.forall_mem_cons.2 ⟨ok118, List.forall_mem_cons.2 ⟨ok119, List.forall_mem_cons.2 ⟨ok120, List.forall_mem_cons.2 ⟨ok121, List.forall_mem_cons.2 ⟨ok122, List.forall_mem_cons.2 ⟨ok123, List.forall_mem_cons.2 ⟨ok124, List.forall_mem_cons.2 ⟨ok125, List.forall_mem_cons.2 ⟨ok126, List.forall_mem_cons.2 ⟨ok127, List.forall_mem_cons.2 ⟨ok128, List.forall_mem_cons.2 ⟨ok129, List.forall_mem_cons.2 ⟨ok130, List.forall_mem_cons.2 ⟨ok131, List.forall_mem_cons.2 ⟨ok132, List.forall_mem_cons.2 ⟨ok133, List.forall_mem_cons.2 ⟨ok134, List.forall_mem_cons.2 ⟨ok135, List.forall_mem_cons.2 ⟨ok136, List.forall_mem_cons.2 ⟨ok137, List.forall_mem_cons.2 ⟨ok138, List.forall_mem_cons.2 ⟨ok139, List.forall_mem_cons.2 ⟨ok140, List.forall_mem_cons.2 ⟨ok141, List.forall_mem_cons.2 ⟨ok142, List.forall_mem_cons.2 ⟨ok143, List.forall_mem_cons.2 ⟨ok144, List.forall_mem_cons.2 ⟨ok145, List.forall_mem_cons.2 ⟨ok146, List.forall_mem_cons.2 ⟨ok147, List.forall_mem_cons.2 ⟨ok148, List.forall_mem_cons.2 ⟨ok149, List.forall_mem_cons.2 ⟨ok150, List.forall_mem_cons.2 ⟨ok151, List.forall_mem_cons.2 ⟨ok152, List.forall_mem_cons.2 ⟨ok153, List.forall_mem_cons.2 ⟨ok154, List.forall_mem_cons.2 ⟨ok155, List.forall_mem_cons.2 ⟨ok156, List.forall_mem_cons.2 ⟨ok157, List.forall_mem_cons.2 ⟨ok158, List.forall_mem_cons.2 ⟨ok159, List.forall_mem_cons.2 ⟨ok160, List.forall_mem_cons.2 ⟨ok161, List.forall_mem_cons.2 ⟨ok162, List.forall_mem_cons.2 ⟨ok163, List.forall_mem_cons.2 ⟨ok164, List.forall_mem_cons.2 ⟨ok165, List.forall_mem_cons.2 ⟨ok166, List.forall_mem_cons.2 ⟨ok167, List.forall_mem_cons.2 ⟨ok168, List.forall_mem_cons.2 ⟨ok169, List.forall_mem_cons.2 ⟨ok170, List.forall_mem_cons.2 ⟨ok171, List.forall_mem_cons.2 ⟨ok172, List.forall_mem_cons.2 ⟨ok173, List.forall_mem_cons.2 ⟨ok174, List.forall_mem_cons.2 ⟨ok175, List.forall_mem_cons.2 ⟨ok176, List.forall_mem_cons.2 ⟨ok177, List.forall_mem_cons.2 ⟨ok178, List.forall_mem_cons.2 ⟨ok179, List.forall_mem_cons.2 ⟨ok180, List.forall_mem_cons.2 ⟨ok181, List.forall_mem_cons.2 ⟨ok182, List.forall_mem_cons.2 ⟨ok183, List.forall_mem_cons.2 ⟨ok184, List.forall_mem_cons.2 ⟨ok185, List.forall_mem_cons.2 ⟨ok186, List.forall_mem_cons.2 ⟨ok187, List.forall_mem_cons.2 ⟨ok189, List.forall_mem_cons.2 ⟨ok190, List.forall_mem_cons.2 ⟨ok191, List.forall_mem_cons.2 ⟨ok193, List.forall_mem_cons.2 ⟨ok194, List.forall_mem_cons.2 ⟨ok195, List.forall_mem_cons.2 ⟨ok196, List.forall_mem_cons.2 ⟨ok197, List.forall_mem_cons.2 ⟨ok198, List.forall_mem_cons.2 ⟨ok199, List.forall_mem_cons.2 ⟨ok200, List.forall_mem_cons.2 ⟨ok201, List.forall_mem_cons.2 ⟨ok202, List.forall_mem_cons.2 ⟨ok203, List.forall_mem_cons.2 ⟨ok204, fun _ h => nomatch h⟩⟩⟩⟩⟩⟩⟩⟩⟩⟩⟩⟩⟩⟩⟩⟩⟩⟩⟩⟩⟩⟩⟩⟩⟩⟩⟩⟩⟩⟩⟩⟩⟩⟩⟩⟩⟩⟩⟩⟩⟩⟩⟩⟩⟩⟩⟩⟩⟩⟩⟩⟩⟩⟩⟩⟩⟩⟩⟩⟩⟩⟩⟩⟩⟩⟩⟩⟩⟩⟩⟩⟩⟩⟩⟩⟩⟩⟩⟩⟩⟩⟩⟩⟩⟩⟩⟩⟩⟩⟩⟩⟩⟩⟩⟩⟩⟩⟩⟩⟩⟩⟩⟩⟩⟩⟩⟩⟩⟩⟩⟩⟩⟩⟩⟩⟩⟩⟩⟩⟩⟩⟩⟩⟩⟩⟩⟩⟩⟩⟩⟩⟩⟩⟩⟩⟩⟩⟩⟩⟩⟩⟩⟩⟩⟩⟩⟩⟩⟩⟩⟩⟩⟩⟩⟩⟩⟩⟩⟩⟩⟩⟩⟩⟩⟩⟩⟩⟩⟩⟩⟩⟩⟩⟩⟩⟩⟩⟩⟩⟩⟩⟩⟩⟩⟩⟩⟩⟩⟩⟩⟩⟩⟩⟩
theorem tyOk : TOk Try.prog tyTab := fun t ti h => tyAll (t, ti) (lkT_mem h)
noncomputable def nm0 : String := ((Try.t159.methods[0]?).map (·.name)).getD default
noncomputable def nm1 : String := ((Try.t161.methods[0]?).map (·.name)).getD default
noncomputable def mTab (t : TypeId) (name : String) : Option FuncId :=
  if t = 159 ∧ name = nm0 then some 148 else if t = 161 ∧ name = nm1 then some 175 else none
theorem m0 (v : Value) (w : World) : (method (Try.prog.types.size + Made.depth) 159 v nm0).run Try.prog w = .ok (148, v) w := by kernel_rfl
theorem m1 (v : Value) (w : World) : (method (Try.prog.types.size + Made.depth) 161 v nm1).run Try.prog w = .ok (175, v) w := by kernel_rfl
def qTab (t : TypeId) : Option Nat :=
  if t = 40 then some 6 else if t = 41 then some 6 else if t = 57 then some 2 else if t = 58 then some 2 else if t = 59 then some 4 else if t = 60 then some 4 else if t = 139 then some 2 else if t = 140 then some 2 else if t = 158 then some 1 else if t = 159 then some 1 else none
theorem q40 (w : World) (op : BinOp) (x y : Operand) (xs ys : List Int) (h1 : xs.length = 6) (h2 : ys.length = 6) :
    (eqGuard op 40 x y (.agg (intCells xs)) (.agg (intCells ys))).run Try.prog w = .ok () w ∧
    (binOp .eql 40 (.agg (intCells xs)) (.agg (intCells ys))).run Try.prog w = .ok (.bool (xs == ys)) w ∧
    (binOp .neq 40 (.agg (intCells xs)) (.agg (intCells ys))).run Try.prog w = .ok (.bool (!(xs == ys))) w := by
  have hm : Try.prog.eqGuardType Try.prog.depth 40 = false := by kernel_rfl
  match xs, ys, h1, h2 with
  | [a0, a1, a2, a3, a4, a5], [b0, b1, b2, b3, b4, b5], _, _ =>
    have key : (Op.equalIn 10000 40 (.agg (intCells [a0, a1, a2, a3, a4, a5])) (.agg (intCells [b0, b1, b2, b3, b4, b5]))).run Try.prog w = .ok ([a0, a1, a2, a3, a4, a5] == [b0, b1, b2, b3, b4, b5]) w := by
      simp only [intCells, List.map_cons, List.map_nil]
      simp [go_sem, List.cons_beq_cons]
      try grind
    exact ⟨run_eqGuard_agg w op 40 x y _ _ hm, by rw [run_eql_struct, key]; rfl, by rw [run_neq_struct, key]; rfl⟩
theorem q41 (w : World) (op : BinOp) (x y : Operand) (xs ys : List Int) (h1 : xs.length = 6) (h2 : ys.length = 6) :
    (eqGuard op 41 x y (.agg (intCells xs)) (.agg (intCells ys))).run Try.prog w = .ok () w ∧
    (binOp .eql 41 (.agg (intCells xs)) (.agg (intCells ys))).run Try.prog w = .ok (.bool (xs == ys)) w ∧
    (binOp .neq 41 (.agg (intCells xs)) (.agg (intCells ys))).run Try.prog w = .ok (.bool (!(xs == ys))) w := by
  have hm : Try.prog.eqGuardType Try.prog.depth 41 = false := by kernel_rfl
  match xs, ys, h1, h2 with
  | [a0, a1, a2, a3, a4, a5], [b0, b1, b2, b3, b4, b5], _, _ =>
    have key : (Op.equalIn 10000 41 (.agg (intCells [a0, a1, a2, a3, a4, a5])) (.agg (intCells [b0, b1, b2, b3, b4, b5]))).run Try.prog w = .ok ([a0, a1, a2, a3, a4, a5] == [b0, b1, b2, b3, b4, b5]) w := by
      simp only [intCells, List.map_cons, List.map_nil]
      simp [go_sem, List.cons_beq_cons]
      try grind
    exact ⟨run_eqGuard_agg w op 41 x y _ _ hm, by rw [run_eql_struct, key]; rfl, by rw [run_neq_struct, key]; rfl⟩
theorem q57 (w : World) (op : BinOp) (x y : Operand) (xs ys : List Int) (h1 : xs.length = 2) (h2 : ys.length = 2) :
    (eqGuard op 57 x y (.agg (intCells xs)) (.agg (intCells ys))).run Try.prog w = .ok () w ∧
    (binOp .eql 57 (.agg (intCells xs)) (.agg (intCells ys))).run Try.prog w = .ok (.bool (xs == ys)) w ∧
    (binOp .neq 57 (.agg (intCells xs)) (.agg (intCells ys))).run Try.prog w = .ok (.bool (!(xs == ys))) w := by
  have hm : Try.prog.eqGuardType Try.prog.depth 57 = false := by kernel_rfl
  match xs, ys, h1, h2 with
  | [a0, a1], [b0, b1], _, _ =>
    have key : (Op.equalIn 10000 57 (.agg (intCells [a0, a1])) (.agg (intCells [b0, b1]))).run Try.prog w = .ok ([a0, a1] == [b0, b1]) w := by
      simp only [intCells, List.map_cons, List.map_nil]
      simp [go_sem, List.cons_beq_cons]
      try grind
    exact ⟨run_eqGuard_agg w op 57 x y _ _ hm, by rw [run_eql_struct, key]; rfl, by rw [run_neq_struct, key]; rfl⟩
theorem q58 (w : World) (op : BinOp) (x y : Operand) (xs ys : List Int) (h1 : xs.length = 2) (h2 : ys.length = 2) :
    (eqGuard op 58 x y (.agg (intCells xs)) (.agg (intCells ys))).run Try.prog w = .ok () w ∧
    (binOp .eql 58 (.agg (intCells xs)) (.agg (intCells ys))).run Try.prog w = .ok (.bool (xs == ys)) w ∧
    (binOp .neq 58 (.agg (intCells xs)) (.agg (intCells ys))).run Try.prog w = .ok (.bool (!(xs == ys))) w := by
  have hm : Try.prog.eqGuardType Try.prog.depth 58 = false := by kernel_rfl
  match xs, ys, h1, h2 with
  | [a0, a1], [b0, b1], _, _ =>
    have key : (Op.equalIn 10000 58 (.agg (intCells [a0, a1])) (.agg (intCells [b0, b1]))).run Try.prog w = .ok ([a0, a1] == [b0, b1]) w := by
      simp only [intCells, List.map_cons, List.map_nil]
      simp [go_sem, List.cons_beq_cons]
      try grind
    exact ⟨run_eqGuard_agg w op 58 x y _ _ hm, by rw [run_eql_struct, key]; rfl, by rw [run_neq_struct, key]; rfl⟩
theorem q59 (w : World) (op : BinOp) (x y : Operand) (xs ys : List Int) (h1 : xs.length = 4) (h2 : ys.length = 4) :
    (eqGuard op 59 x y (.agg (intCells xs)) (.agg (intCells ys))).run Try.prog w = .ok () w ∧
    (binOp .eql 59 (.agg (intCells xs)) (.agg (intCells ys))).run Try.prog w = .ok (.bool (xs == ys)) w ∧
    (binOp .neq 59 (.agg (intCells xs)) (.agg (intCells ys))).run Try.prog w = .ok (.bool (!(xs == ys))) w := by
  have hm : Try.prog.eqGuardType Try.prog.depth 59 = false := by kernel_rfl
  match xs, ys, h1, h2 with
  | [a0, a1, a2, a3], [b0, b1, b2, b3], _, _ =>
    have key : (Op.equalIn 10000 59 (.agg (intCells [a0, a1, a2, a3])) (.agg (intCells [b0, b1, b2, b3]))).run Try.prog w = .ok ([a0, a1, a2, a3] == [b0, b1, b2, b3]) w := by
      simp only [intCells, List.map_cons, List.map_nil]
      simp [go_sem, List.cons_beq_cons]
      try grind
    exact ⟨run_eqGuard_agg w op 59 x y _ _ hm, by rw [run_eql_struct, key]; rfl, by rw [run_neq_struct, key]; rfl⟩
theorem q60 (w : World) (op : BinOp) (x y : Operand) (xs ys : List Int) (h1 : xs.length = 4) (h2 : ys.length = 4) :
    (eqGuard op 60 x y (.agg (intCells xs)) (.agg (intCells ys))).run Try.prog w = .ok () w ∧
    (binOp .eql 60 (.agg (intCells xs)) (.agg (intCells ys))).run Try.prog w = .ok (.bool (xs == ys)) w ∧
    (binOp .neq 60 (.agg (intCells xs)) (.agg (intCells ys))).run Try.prog w = .ok (.bool (!(xs == ys))) w := by
  have hm : Try.prog.eqGuardType Try.prog.depth 60 = false := by kernel_rfl
  match xs, ys, h1, h2 with
  | [a0, a1, a2, a3], [b0, b1, b2, b3], _, _ =>
    have key : (Op.equalIn 10000 60 (.agg (intCells [a0, a1, a2, a3])) (.agg (intCells [b0, b1, b2, b3]))).run Try.prog w = .ok ([a0, a1, a2, a3] == [b0, b1, b2, b3]) w := by
      simp only [intCells, List.map_cons, List.map_nil]
      simp [go_sem, List.cons_beq_cons]
      try grind
    exact ⟨run_eqGuard_agg w op 60 x y _ _ hm, by rw [run_eql_struct, key]; rfl, by rw [run_neq_struct, key]; rfl⟩
theorem q139 (w : World) (op : BinOp) (x y : Operand) (xs ys : List Int) (h1 : xs.length = 2) (h2 : ys.length = 2) :
    (eqGuard op 139 x y (.agg (intCells xs)) (.agg (intCells ys))).run Try.prog w = .ok () w ∧
    (binOp .eql 139 (.agg (intCells xs)) (.agg (intCells ys))).run Try.prog w = .ok (.bool (xs == ys)) w ∧
    (binOp .neq 139 (.agg (intCells xs)) (.agg (intCells ys))).run Try.prog w = .ok (.bool (!(xs == ys))) w := by
  have hm : Try.prog.eqGuardType Try.prog.depth 139 = false := by kernel_rfl
  match xs, ys, h1, h2 with
  | [a0, a1], [b0, b1], _, _ =>
    have key : (Op.equalIn 10000 139 (.agg (intCells [a0, a1])) (.agg (intCells [b0, b1]))).run Try.prog w = .ok ([a0, a1] == [b0, b1]) w := by
      simp only [intCells, List.map_cons, List.map_nil]
      simp [go_sem, List.cons_beq_cons]
      try grind
    exact ⟨run_eqGuard_agg w op 139 x y _ _ hm, by rw [run_eql_struct, key]; rfl, by rw [run_neq_struct, key]; rfl⟩
theorem q140 (w : World) (op : BinOp) (x y : Operand) (xs ys : List Int) (h1 : xs.length = 2) (h2 : ys.length = 2) :
    (eqGuard op 140 x y (.agg (intCells xs)) (.agg (intCells ys))).run Try.prog w = .ok () w ∧
    (binOp .eql 140 (.agg (intCells xs)) (.agg (intCells ys))).run Try.prog w = .ok (.bool (xs == ys)) w ∧
    (binOp .neq 140 (.agg (intCells xs)) (.agg (intCells ys))).run Try.prog w = .ok (.bool (!(xs == ys))) w := by
  have hm : Try.prog.eqGuardType Try.prog.depth 140 = false := by kernel_rfl
  match xs, ys, h1, h2 with
  | [a0, a1], [b0, b1], _, _ =>
    have key : (Op.equalIn 10000 140 (.agg (intCells [a0, a1])) (.agg (intCells [b0, b1]))).run Try.prog w = .ok ([a0, a1] == [b0, b1]) w := by
      simp only [intCells, List.map_cons, List.map_nil]
      simp [go_sem, List.cons_beq_cons]
      try grind
    exact ⟨run_eqGuard_agg w op 140 x y _ _ hm, by rw [run_eql_struct, key]; rfl, by rw [run_neq_struct, key]; rfl⟩
theorem q158 (w : World) (op : BinOp) (x y : Operand) (xs ys : List Int) (h1 : xs.length = 1) (h2 : ys.length = 1) :
    (eqGuard op 158 x y (.agg (intCells xs)) (.agg (intCells ys))).run Try.prog w = .ok () w ∧
    (binOp .eql 158 (.agg (intCells xs)) (.agg (intCells ys))).run Try.prog w = .ok (.bool (xs == ys)) w ∧
    (binOp .neq 158 (.agg (intCells xs)) (.agg (intCells ys))).run Try.prog w = .ok (.bool (!(xs == ys))) w := by
  have hm : Try.prog.eqGuardType Try.prog.depth 158 = false := by kernel_rfl
  match xs, ys, h1, h2 with
  | [a0], [b0], _, _ =>
    have key : (Op.equalIn 10000 158 (.agg (intCells [a0])) (.agg (intCells [b0]))).run Try.prog w = .ok ([a0] == [b0]) w := by
      simp only [intCells, List.map_cons, List.map_nil]
      simp [go_sem, List.cons_beq_cons]
      try grind
    exact ⟨run_eqGuard_agg w op 158 x y _ _ hm, by rw [run_eql_struct, key]; rfl, by rw [run_neq_struct, key]; rfl⟩
theorem q159 (w : World) (op : BinOp) (x y : Operand) (xs ys : List Int) (h1 : xs.length = 1) (h2 : ys.length = 1) :
    (eqGuard op 159 x y (.agg (intCells xs)) (.agg (intCells ys))).run Try.prog w = .ok () w ∧
    (binOp .eql 159 (.agg (intCells xs)) (.agg (intCells ys))).run Try.prog w = .ok (.bool (xs == ys)) w ∧
    (binOp .neq 159 (.agg (intCells xs)) (.agg (intCells ys))).run Try.prog w = .ok (.bool (!(xs == ys))) w := by
  have hm : Try.prog.eqGuardType Try.prog.depth 159 = false := by kernel_rfl
  match xs, ys, h1, h2 with
  | [a0], [b0], _, _ =>
    have key : (Op.equalIn 10000 159 (.agg (intCells [a0])) (.agg (intCells [b0]))).run Try.prog w = .ok ([a0] == [b0]) w := by
      simp only [intCells, List.map_cons, List.map_nil]
      simp [go_sem, List.cons_beq_cons]
      try grind
    exact ⟨run_eqGuard_agg w op 159 x y _ _ hm, by rw [run_eql_struct, key]; rfl, by rw [run_neq_struct, key]; rfl⟩
noncomputable def ev : Ev := { P := Try.prog, T := tyTab, M := mTab, Q := qTab }
theorem ev_T : ev.T = tyTab := rfl
theorem ev_P : ev.P = Try.prog := rfl
theorem ev_Q : ev.Q = qTab := rfl
theorem ev_M : ev.M = mTab := rfl
theorem evOk : EvOk ev := by
  refine ⟨tyOk, ?_, ?_, by kernel_rfl⟩
  · intro t name f h v w
    unfold ev mTab at h; dsimp only at h
    by_cases c0 : t = 159 ∧ name = nm0
    · rw [if_pos c0] at h; obtain ⟨rfl, rfl⟩ := c0; cases h; exact m0 v w
    rw [if_neg c0] at h
    by_cases c1 : t = 161 ∧ name = nm1
    · rw [if_pos c1] at h; obtain ⟨rfl, rfl⟩ := c1; cases h; exact m1 v w
    rw [if_neg c1] at h
    cases h
  · intro t n h w op x y xs ys h1 h2
    unfold ev qTab at h; dsimp only at h
    by_cases c40 : t = 40
    · rw [if_pos c40] at h; subst c40; cases h; exact q40 w op x y xs ys h1 h2
    rw [if_neg c40] at h
    by_cases c41 : t = 41
    · rw [if_pos c41] at h; subst c41; cases h; exact q41 w op x y xs ys h1 h2
    rw [if_neg c41] at h
    by_cases c57 : t = 57
    · rw [if_pos c57] at h; subst c57; cases h; exact q57 w op x y xs ys h1 h2
    rw [if_neg c57] at h
    by_cases c58 : t = 58
    · rw [if_pos c58] at h; subst c58; cases h; exact q58 w op x y xs ys h1 h2
    rw [if_neg c58] at h
    by_cases c59 : t = 59
    · rw [if_pos c59] at h; subst c59; cases h; exact q59 w op x y xs ys h1 h2
    rw [if_neg c59] at h
    by_cases c60 : t = 60
    · rw [if_pos c60] at h; subst c60; cases h; exact q60 w op x y xs ys h1 h2
    rw [if_neg c60] at h
    by_cases c139 : t = 139
    · rw [if_pos c139] at h; subst c139; cases h; exact q139 w op x y xs ys h1 h2
    rw [if_neg c139] at h
    by_cases c140 : t = 140
    · rw [if_pos c140] at h; subst c140; cases h; exact q140 w op x y xs ys h1 h2
    rw [if_neg c140] at h
    by_cases c158 : t = 158
    · rw [if_pos c158] at h; subst c158; cases h; exact q158 w op x y xs ys h1 h2
    rw [if_neg c158] at h
    by_cases c159 : t = 159
    · rw [if_pos c159] at h; subst c159; cases h; exact q159 w op x y xs ys h1 h2
    rw [if_neg c159] at h
    cases h

end Go.Proofs.Ytbobgnkohnbonaa

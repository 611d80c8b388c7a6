/- Parts of the proof, put together by a program. -/
import Derived.Test.YtabmhfmglhjmjaaGreatDoorProg
import Derived.KernelRfl
import Derived.Test.YtabmhfmglhjmjaaGreatDoorUac
set_option linter.unusedSimpArgs false
set_option maxRecDepth 100000
set_option linter.unusedSectionVars false
namespace Go.Proofs.YtabmhfmglhjmjaaGreatDoor
open Go.Ab Go.RowKit
variable [Dr]
def ti2 : TI := { size := 1, bytes := 8, agg := false, zero := .v (Go.Value.int Go.IntKind.i64 0), kind := .int .i64 }
def ti3 : TI := { size := 1, bytes := 8, agg := false, zero := .v (Go.Value.int Go.IntKind.i64 0), kind := .int .i64 }
def ti4 : TI := { size := 1, bytes := 1, agg := false, zero := .v (Go.Value.bool false), kind := .bool }
def ti5 : TI := { size := 1, bytes := 1, agg := false, zero := .v (Go.Value.int Go.IntKind.u8 0), kind := .int .u8 }
def ti9 : TI := { size := 1, bytes := 16, agg := false, zero := .v (Go.Value.string { data := #[] }), kind := .string }
def ti21 : TI := { size := 1, bytes := 4, agg := false, zero := .v (Go.Value.int Go.IntKind.i32 0), kind := .int .i32 }
def ti22 : TI := { size := 1, bytes := 24, agg := false, zero := .v (Go.Value.slice none 0 0), kind := .slice 3 }
def ti27 : TI := { size := 3, bytes := 24, agg := true, zero := .ag [.v (Go.Value.int Go.IntKind.i64 0), .v (Go.Value.int Go.IntKind.i64 0), .v (Go.Value.int Go.IntKind.i64 0)], kind := .struct [(0, 3), (1, 3), (2, 3)] }
def ti28 : TI := { size := 1, bytes := 8, agg := false, zero := .v (Go.Value.int Go.IntKind.i64 0), kind := .int .i64 }
def ti33 : TI := { size := 1, bytes := 24, agg := false, zero := .v (Go.Value.slice none 0 0), kind := .slice 102 }
def ti35 : TI := { size := 4, bytes := 48, agg := true, zero := .ag [.v (Go.Value.slice none 0 0), .v (Go.Value.int Go.IntKind.i64 0), .v (Go.Value.int Go.IntKind.i64 0), .v (Go.Value.int Go.IntKind.i64 0)], kind := .struct [(0, 33), (1, 3), (2, 3), (3, 3)] }
def ti37 : TI := { size := 1, bytes := 24, agg := false, zero := .v (Go.Value.slice none 0 0), kind := .slice 9 }
def ti46 : TI := { size := 2, bytes := 16, agg := true, zero := .ag [.v (Go.Value.int Go.IntKind.i64 0), .v (Go.Value.int Go.IntKind.i64 0)], kind := .array 2 3 }
def ti56 : TI := { size := 1, bytes := 24, agg := false, zero := .v (Go.Value.slice none 0 0), kind := .slice 164 }
def ti58 : TI := { size := 2, bytes := 32, agg := true, zero := .ag [.v (Go.Value.int Go.IntKind.i64 0), .v (Go.Value.slice none 0 0)], kind := .struct [(0, 3), (1, 56)] }
def ti66 : TI := { size := 1, bytes := 24, agg := false, zero := .v (Go.Value.slice none 0 0), kind := .slice 87 }
def ti70 : TI := { size := 2, bytes := 16, agg := true, zero := .ag [.v (Go.Value.int Go.IntKind.i64 0), .v (Go.Value.int Go.IntKind.i64 0)], kind := .struct [(0, 3), (1, 3)] }
def ti87 : TI := { size := 3, bytes := 24, agg := true, zero := .ag [.v (Go.Value.int Go.IntKind.i64 0), .v (Go.Value.int Go.IntKind.i64 0), .v (Go.Value.int Go.IntKind.i64 0)], kind := .struct [(0, 3), (1, 3), (2, 3)] }
def ti92 : TI := { size := 1, bytes := 24, agg := false, zero := .v (Go.Value.slice none 0 0), kind := .slice 104 }
def ti102 : TI := { size := 3, bytes := 48, agg := true, zero := .ag [.v (Go.Value.string { data := #[] }), .v (Go.Value.int Go.IntKind.i64 0), .v (Go.Value.slice none 0 0)], kind := .struct [(0, 9), (1, 3), (2, 22)] }
def ti104 : TI := { size := 3, bytes := 32, agg := true, zero := .ag [.v (Go.Value.string { data := #[] }), .v (Go.Value.int Go.IntKind.i64 0), .v (Go.Value.int Go.IntKind.i64 0)], kind := .struct [(0, 9), (1, 70)] }
def ti106 : TI := { size := 3, bytes := 24, agg := true, zero := .ag [.v (Go.Value.int Go.IntKind.i64 0), .v (Go.Value.int Go.IntKind.i64 0), .v (Go.Value.int Go.IntKind.i64 0)], kind := .array 3 3 }
def ti107 : TI := { size := 3, bytes := 72, agg := true, zero := .ag [.v (Go.Value.slice none 0 0), .v (Go.Value.slice none 0 0), .v (Go.Value.slice none 0 0)], kind := .array 3 66 }
def ti109 : TI := { size := 7, bytes := 120, agg := true, zero := .ag [.v (Go.Value.slice none 0 0), .v (Go.Value.int Go.IntKind.i64 0), .v (Go.Value.int Go.IntKind.i64 0), .v (Go.Value.int Go.IntKind.i64 0), .v (Go.Value.slice none 0 0), .v (Go.Value.slice none 0 0), .v (Go.Value.slice none 0 0)], kind := .struct [(0, 22), (1, 106), (4, 107)] }
def ti110 : TI := { size := 1, bytes := 24, agg := false, zero := .v (Go.Value.slice none 0 0), kind := .slice 4 }
def ti111 : TI := { size := 3, bytes := 72, agg := true, zero := .ag [.v (Go.Value.slice none 0 0), .v (Go.Value.slice none 0 0), .v (Go.Value.slice none 0 0)], kind := .array 3 110 }
def ti115 : TI := { size := 1, bytes := 24, agg := false, zero := .v (Go.Value.slice none 0 0), kind := .slice 22 }
def ti118 : TI := { size := 1, bytes := 24, agg := false, zero := .v (Go.Value.slice none 0 0), kind := .slice 22 }
def ti132 : TI := { size := 1, bytes := 8, agg := false, zero := .v (Go.Value.nilFunc), kind := .other }
def ti143 : TI := { size := 1, bytes := 24, agg := false, zero := .v (Go.Value.slice none 0 0), kind := .slice 27 }
def ti146 : TI := { size := 1, bytes := 8, agg := false, zero := .v (Go.Value.nilFunc), kind := .other }
def ti148 : TI := { size := 5, bytes := 72, agg := true, zero := .ag [.v (Go.Value.slice none 0 0), .v (Go.Value.int Go.IntKind.i64 0), .v (Go.Value.int Go.IntKind.i64 0), .v (Go.Value.int Go.IntKind.i64 0), .v (Go.Value.slice none 0 0)], kind := .struct [(0, 35), (4, 115)] }
def ti153 : TI := { size := 1, bytes := 8, agg := false, zero := .v (Go.Value.nilFunc), kind := .other }
def ti154 : TI := { size := 1, bytes := 8, agg := false, zero := .v (Go.Value.nilFunc), kind := .other }
def ti164 : TI := { size := 3, bytes := 24, agg := true, zero := .ag [.v (Go.Value.int Go.IntKind.i64 0), .v (Go.Value.int Go.IntKind.i64 0), .v (Go.Value.int Go.IntKind.i64 0)], kind := .struct [(0, 3), (1, 3), (2, 3)] }
def ti173 : TI := { size := 1, bytes := 8, agg := false, zero := .v (Go.Value.nilFunc), kind := .other }
def ti191 : TI := { size := 1, bytes := 24, agg := false, zero := .v (Go.Value.slice none 0 0), kind := .slice 28 }
def ti194 : TI := { size := 1, bytes := 8, agg := false, zero := .v (Go.Value.int Go.IntKind.u64 0), kind := .int .u64 }
def ti197 : TI := { size := 1, bytes := 24, agg := false, zero := .v (Go.Value.slice none 0 0), kind := .slice 5 }
def ti199 : TI := { size := 1, bytes := 8, agg := false, zero := .v (Go.Value.nilFunc), kind := .other }
def ti204 : TI := { size := 1, bytes := 16, agg := false, zero := .v (Go.Value.nilIface), kind := .iface }
def ti208 : TI := { size := 1, bytes := 8, agg := false, zero := .v (Go.Value.pointer none), kind := .pointer 3 }
def ti209 : TI := { size := 3, bytes := 24, agg := true, zero := .ag [.v (Go.Value.pointer none), .v (Go.Value.pointer none), .v (Go.Value.pointer none)], kind := .array 3 208 }
def ti210 : TI := { size := 1, bytes := 8, agg := false, zero := .v (Go.Value.pointer none), kind := .pointer 212 }
def ti212 : TI := { size := 2, bytes := 32, agg := true, zero := .ag [.v (Go.Value.pointer none), .v (Go.Value.slice none 0 0)], kind := .struct [(0, 210), (1, 197)] }
def ti216 : TI := { size := 1, bytes := 8, agg := false, zero := .v (Go.Value.nilFunc), kind := .other }
def ti219 : TI := { size := 1, bytes := 8, agg := false, zero := .v (Go.Value.int Go.IntKind.i64 0), kind := .int .i64 }
def ti226 : TI := { size := 1, bytes := 4, agg := false, zero := .v (Go.Value.int Go.IntKind.u32 0), kind := .int .u32 }
def ti228 : TI := { size := 1, bytes := 8, agg := false, zero := .v (Go.Value.int Go.IntKind.u64 0), kind := .int .u64 }
def ti243 : TI := { size := 1, bytes := 8, agg := false, zero := .v (Go.Value.pointer none), kind := .pointer 5 }
def ti244 : TI := { size := 1, bytes := 8, agg := false, zero := .v (Go.Value.int Go.IntKind.u64 0), kind := .int .u64 }
def ti258 : TI := { size := 1, bytes := 8, agg := false, zero := .v (Go.Value.int Go.IntKind.i64 0), kind := .int .i64 }
def ti261 : TI := { size := 1, bytes := 8, agg := false, zero := .v (Go.Value.pointer none), kind := .pointer 284 }
def ti265 : TI := { size := 24, bytes := 24, agg := true, zero := .ag [.v (Go.Value.int Go.IntKind.u8 0), .v (Go.Value.int Go.IntKind.u8 0), .v (Go.Value.int Go.IntKind.u8 0), .v (Go.Value.int Go.IntKind.u8 0), .v (Go.Value.int Go.IntKind.u8 0), .v (Go.Value.int Go.IntKind.u8 0), .v (Go.Value.int Go.IntKind.u8 0), .v (Go.Value.int Go.IntKind.u8 0), .v (Go.Value.int Go.IntKind.u8 0), .v (Go.Value.int Go.IntKind.u8 0), .v (Go.Value.int Go.IntKind.u8 0), .v (Go.Value.int Go.IntKind.u8 0), .v (Go.Value.int Go.IntKind.u8 0), .v (Go.Value.int Go.IntKind.u8 0), .v (Go.Value.int Go.IntKind.u8 0), .v (Go.Value.int Go.IntKind.u8 0), .v (Go.Value.int Go.IntKind.u8 0), .v (Go.Value.int Go.IntKind.u8 0), .v (Go.Value.int Go.IntKind.u8 0), .v (Go.Value.int Go.IntKind.u8 0), .v (Go.Value.int Go.IntKind.u8 0), .v (Go.Value.int Go.IntKind.u8 0), .v (Go.Value.int Go.IntKind.u8 0), .v (Go.Value.int Go.IntKind.u8 0)], kind := .array 24 5 }
def ti284 : TI := { size := 3, bytes := 48, agg := true, zero := .ag [.v (Go.Value.string { data := #[] }), .v (Go.Value.string { data := #[] }), .v (Go.Value.nilIface)], kind := .struct [(0, 9), (1, 9), (2, 204)] }
def ti287 : TI := { size := 20, bytes := 160, agg := true, zero := .ag [.v (Go.Value.int Go.IntKind.u64 0), .v (Go.Value.int Go.IntKind.u64 0), .v (Go.Value.int Go.IntKind.u64 0), .v (Go.Value.int Go.IntKind.u64 0), .v (Go.Value.int Go.IntKind.u64 0), .v (Go.Value.int Go.IntKind.u64 0), .v (Go.Value.int Go.IntKind.u64 0), .v (Go.Value.int Go.IntKind.u64 0), .v (Go.Value.int Go.IntKind.u64 0), .v (Go.Value.int Go.IntKind.u64 0), .v (Go.Value.int Go.IntKind.u64 0), .v (Go.Value.int Go.IntKind.u64 0), .v (Go.Value.int Go.IntKind.u64 0), .v (Go.Value.int Go.IntKind.u64 0), .v (Go.Value.int Go.IntKind.u64 0), .v (Go.Value.int Go.IntKind.u64 0), .v (Go.Value.int Go.IntKind.u64 0), .v (Go.Value.int Go.IntKind.u64 0), .v (Go.Value.int Go.IntKind.u64 0), .v (Go.Value.int Go.IntKind.u64 0)], kind := .array 20 228 }
def ti293 : TI := { size := 2, bytes := 2, agg := true, zero := .ag [.v (Go.Value.int Go.IntKind.u8 0), .v (Go.Value.int Go.IntKind.u8 0)], kind := .struct [(0, 5), (1, 5)] }
def ti294 : TI := { size := 32, bytes := 32, agg := true, zero := .ag [.v (Go.Value.int Go.IntKind.u8 0), .v (Go.Value.int Go.IntKind.u8 0), .v (Go.Value.int Go.IntKind.u8 0), .v (Go.Value.int Go.IntKind.u8 0), .v (Go.Value.int Go.IntKind.u8 0), .v (Go.Value.int Go.IntKind.u8 0), .v (Go.Value.int Go.IntKind.u8 0), .v (Go.Value.int Go.IntKind.u8 0), .v (Go.Value.int Go.IntKind.u8 0), .v (Go.Value.int Go.IntKind.u8 0), .v (Go.Value.int Go.IntKind.u8 0), .v (Go.Value.int Go.IntKind.u8 0), .v (Go.Value.int Go.IntKind.u8 0), .v (Go.Value.int Go.IntKind.u8 0), .v (Go.Value.int Go.IntKind.u8 0), .v (Go.Value.int Go.IntKind.u8 0), .v (Go.Value.int Go.IntKind.u8 0), .v (Go.Value.int Go.IntKind.u8 0), .v (Go.Value.int Go.IntKind.u8 0), .v (Go.Value.int Go.IntKind.u8 0), .v (Go.Value.int Go.IntKind.u8 0), .v (Go.Value.int Go.IntKind.u8 0), .v (Go.Value.int Go.IntKind.u8 0), .v (Go.Value.int Go.IntKind.u8 0), .v (Go.Value.int Go.IntKind.u8 0), .v (Go.Value.int Go.IntKind.u8 0), .v (Go.Value.int Go.IntKind.u8 0), .v (Go.Value.int Go.IntKind.u8 0), .v (Go.Value.int Go.IntKind.u8 0), .v (Go.Value.int Go.IntKind.u8 0), .v (Go.Value.int Go.IntKind.u8 0), .v (Go.Value.int Go.IntKind.u8 0)], kind := .array 16 293 }
def ti298 : TI := { size := 1, bytes := 8, agg := false, zero := .v (Go.Value.pointer none), kind := .pointer 300 }
def ti300 : TI := { size := 1, bytes := 16, agg := true, zero := .ag [.v (Go.Value.string { data := #[] })], kind := .struct [(0, 9)] }
def ti302 : TI := { size := 32, bytes := 32, agg := true, zero := .ag [.v (Go.Value.int Go.IntKind.u8 0), .v (Go.Value.int Go.IntKind.u8 0), .v (Go.Value.int Go.IntKind.u8 0), .v (Go.Value.int Go.IntKind.u8 0), .v (Go.Value.int Go.IntKind.u8 0), .v (Go.Value.int Go.IntKind.u8 0), .v (Go.Value.int Go.IntKind.u8 0), .v (Go.Value.int Go.IntKind.u8 0), .v (Go.Value.int Go.IntKind.u8 0), .v (Go.Value.int Go.IntKind.u8 0), .v (Go.Value.int Go.IntKind.u8 0), .v (Go.Value.int Go.IntKind.u8 0), .v (Go.Value.int Go.IntKind.u8 0), .v (Go.Value.int Go.IntKind.u8 0), .v (Go.Value.int Go.IntKind.u8 0), .v (Go.Value.int Go.IntKind.u8 0), .v (Go.Value.int Go.IntKind.u8 0), .v (Go.Value.int Go.IntKind.u8 0), .v (Go.Value.int Go.IntKind.u8 0), .v (Go.Value.int Go.IntKind.u8 0), .v (Go.Value.int Go.IntKind.u8 0), .v (Go.Value.int Go.IntKind.u8 0), .v (Go.Value.int Go.IntKind.u8 0), .v (Go.Value.int Go.IntKind.u8 0), .v (Go.Value.int Go.IntKind.u8 0), .v (Go.Value.int Go.IntKind.u8 0), .v (Go.Value.int Go.IntKind.u8 0), .v (Go.Value.int Go.IntKind.u8 0), .v (Go.Value.int Go.IntKind.u8 0), .v (Go.Value.int Go.IntKind.u8 0), .v (Go.Value.int Go.IntKind.u8 0), .v (Go.Value.int Go.IntKind.u8 0)], kind := .array 32 5 }
def ti303 : TI := { size := 64, bytes := 64, agg := true, zero := .ag [.v (Go.Value.int Go.IntKind.u8 0), .v (Go.Value.int Go.IntKind.u8 0), .v (Go.Value.int Go.IntKind.u8 0), .v (Go.Value.int Go.IntKind.u8 0), .v (Go.Value.int Go.IntKind.u8 0), .v (Go.Value.int Go.IntKind.u8 0), .v (Go.Value.int Go.IntKind.u8 0), .v (Go.Value.int Go.IntKind.u8 0), .v (Go.Value.int Go.IntKind.u8 0), .v (Go.Value.int Go.IntKind.u8 0), .v (Go.Value.int Go.IntKind.u8 0), .v (Go.Value.int Go.IntKind.u8 0), .v (Go.Value.int Go.IntKind.u8 0), .v (Go.Value.int Go.IntKind.u8 0), .v (Go.Value.int Go.IntKind.u8 0), .v (Go.Value.int Go.IntKind.u8 0), .v (Go.Value.int Go.IntKind.u8 0), .v (Go.Value.int Go.IntKind.u8 0), .v (Go.Value.int Go.IntKind.u8 0), .v (Go.Value.int Go.IntKind.u8 0), .v (Go.Value.int Go.IntKind.u8 0), .v (Go.Value.int Go.IntKind.u8 0), .v (Go.Value.int Go.IntKind.u8 0), .v (Go.Value.int Go.IntKind.u8 0), .v (Go.Value.int Go.IntKind.u8 0), .v (Go.Value.int Go.IntKind.u8 0), .v (Go.Value.int Go.IntKind.u8 0), .v (Go.Value.int Go.IntKind.u8 0), .v (Go.Value.int Go.IntKind.u8 0), .v (Go.Value.int Go.IntKind.u8 0), .v (Go.Value.int Go.IntKind.u8 0), .v (Go.Value.int Go.IntKind.u8 0), .v (Go.Value.int Go.IntKind.u8 0), .v (Go.Value.int Go.IntKind.u8 0), .v (Go.Value.int Go.IntKind.u8 0), .v (Go.Value.int Go.IntKind.u8 0), .v (Go.Value.int Go.IntKind.u8 0), .v (Go.Value.int Go.IntKind.u8 0), .v (Go.Value.int Go.IntKind.u8 0), .v (Go.Value.int Go.IntKind.u8 0), .v (Go.Value.int Go.IntKind.u8 0), .v (Go.Value.int Go.IntKind.u8 0), .v (Go.Value.int Go.IntKind.u8 0), .v (Go.Value.int Go.IntKind.u8 0), .v (Go.Value.int Go.IntKind.u8 0), .v (Go.Value.int Go.IntKind.u8 0), .v (Go.Value.int Go.IntKind.u8 0), .v (Go.Value.int Go.IntKind.u8 0), .v (Go.Value.int Go.IntKind.u8 0), .v (Go.Value.int Go.IntKind.u8 0), .v (Go.Value.int Go.IntKind.u8 0), .v (Go.Value.int Go.IntKind.u8 0), .v (Go.Value.int Go.IntKind.u8 0), .v (Go.Value.int Go.IntKind.u8 0), .v (Go.Value.int Go.IntKind.u8 0), .v (Go.Value.int Go.IntKind.u8 0), .v (Go.Value.int Go.IntKind.u8 0), .v (Go.Value.int Go.IntKind.u8 0), .v (Go.Value.int Go.IntKind.u8 0), .v (Go.Value.int Go.IntKind.u8 0), .v (Go.Value.int Go.IntKind.u8 0), .v (Go.Value.int Go.IntKind.u8 0), .v (Go.Value.int Go.IntKind.u8 0), .v (Go.Value.int Go.IntKind.u8 0)], kind := .array 64 5 }
def tyL : List (Nat × TI) := [(2, ti2), (3, ti3), (4, ti4), (5, ti5), (9, ti9), (21, ti21), (22, ti22), (27, ti27), (28, ti28), (33, ti33), (35, ti35), (37, ti37), (46, ti46), (56, ti56), (58, ti58), (66, ti66), (70, ti70), (87, ti87), (92, ti92), (102, ti102), (104, ti104), (106, ti106), (107, ti107), (109, ti109), (110, ti110), (111, ti111), (115, ti115), (118, ti118), (132, ti132), (143, ti143), (146, ti146), (148, ti148), (153, ti153), (154, ti154), (164, ti164), (173, ti173), (191, ti191), (194, ti194), (197, ti197), (199, ti199), (204, ti204), (208, ti208), (209, ti209), (210, ti210), (212, ti212), (216, ti216), (219, ti219), (226, ti226), (228, ti228), (243, ti243), (244, ti244), (258, ti258), (261, ti261), (265, ti265), (284, ti284), (287, ti287), (293, ti293), (294, ti294), (298, ti298), (300, ti300), (302, ti302), (303, ti303)]
def lkT : List (Nat × TI) → Nat → Option TI
  | [], _ => none
  | p :: l, t => bif p.1 == t then some p.2 else lkT l t
def tyTab : Tab := lkT tyL
theorem tab2 : tyTab 2 = some ti2 := rfl
theorem tab3 : tyTab 3 = some ti3 := rfl
theorem tab4 : tyTab 4 = some ti4 := rfl
theorem tab5 : tyTab 5 = some ti5 := rfl
theorem tab9 : tyTab 9 = some ti9 := rfl
theorem tab21 : tyTab 21 = some ti21 := rfl
theorem tab22 : tyTab 22 = some ti22 := rfl
theorem tab27 : tyTab 27 = some ti27 := rfl
theorem tab28 : tyTab 28 = some ti28 := rfl
theorem tab33 : tyTab 33 = some ti33 := rfl
theorem tab35 : tyTab 35 = some ti35 := rfl
theorem tab37 : tyTab 37 = some ti37 := rfl
theorem tab46 : tyTab 46 = some ti46 := rfl
theorem tab56 : tyTab 56 = some ti56 := rfl
theorem tab58 : tyTab 58 = some ti58 := rfl
theorem tab66 : tyTab 66 = some ti66 := rfl
theorem tab70 : tyTab 70 = some ti70 := rfl
theorem tab87 : tyTab 87 = some ti87 := rfl
theorem tab92 : tyTab 92 = some ti92 := rfl
theorem tab102 : tyTab 102 = some ti102 := rfl
theorem tab104 : tyTab 104 = some ti104 := rfl
theorem tab106 : tyTab 106 = some ti106 := rfl
theorem tab107 : tyTab 107 = some ti107 := rfl
theorem tab109 : tyTab 109 = some ti109 := rfl
theorem tab110 : tyTab 110 = some ti110 := rfl
theorem tab111 : tyTab 111 = some ti111 := rfl
theorem tab115 : tyTab 115 = some ti115 := rfl
theorem tab118 : tyTab 118 = some ti118 := rfl
theorem tab132 : tyTab 132 = some ti132 := rfl
theorem tab143 : tyTab 143 = some ti143 := rfl
theorem tab146 : tyTab 146 = some ti146 := rfl
theorem tab148 : tyTab 148 = some ti148 := rfl
theorem tab153 : tyTab 153 = some ti153 := rfl
theorem tab154 : tyTab 154 = some ti154 := rfl
theorem tab164 : tyTab 164 = some ti164 := rfl
theorem tab173 : tyTab 173 = some ti173 := rfl
theorem tab191 : tyTab 191 = some ti191 := rfl
theorem tab194 : tyTab 194 = some ti194 := rfl
theorem tab197 : tyTab 197 = some ti197 := rfl
theorem tab199 : tyTab 199 = some ti199 := rfl
theorem tab204 : tyTab 204 = some ti204 := rfl
theorem tab208 : tyTab 208 = some ti208 := rfl
theorem tab209 : tyTab 209 = some ti209 := rfl
theorem tab210 : tyTab 210 = some ti210 := rfl
theorem tab212 : tyTab 212 = some ti212 := rfl
theorem tab216 : tyTab 216 = some ti216 := rfl
theorem tab219 : tyTab 219 = some ti219 := rfl
theorem tab226 : tyTab 226 = some ti226 := rfl
theorem tab228 : tyTab 228 = some ti228 := rfl
theorem tab243 : tyTab 243 = some ti243 := rfl
theorem tab244 : tyTab 244 = some ti244 := rfl
theorem tab258 : tyTab 258 = some ti258 := rfl
theorem tab261 : tyTab 261 = some ti261 := rfl
theorem tab265 : tyTab 265 = some ti265 := rfl
theorem tab284 : tyTab 284 = some ti284 := rfl
theorem tab287 : tyTab 287 = some ti287 := rfl
theorem tab293 : tyTab 293 = some ti293 := rfl
theorem tab294 : tyTab 294 = some ti294 := rfl
theorem tab298 : tyTab 298 = some ti298 := rfl
theorem tab300 : tyTab 300 = some ti300 := rfl
theorem tab302 : tyTab 302 = some ti302 := rfl
theorem tab303 : tyTab 303 = some ti303 := rfl
theorem lkT_mem : ∀ {l : List (Nat × TI)} {t : Nat} {ti : TI}, lkT l t = some ti → (t, ti) ∈ l
  | p :: l, t, ti, h => by
    simp only [lkT] at h
    by_cases e : p.1 = t
    · subst e; simp at h; simp [← h]
    · rw [show (p.1 == t) = false by simpa using e, cond_false] at h
      exact List.mem_cons_of_mem _ (lkT_mem h)
theorem ok2 : TIok Tryz.prog 2 ti2 := ⟨⟨Tryz.t2, by kernel_rfl, rfl, rfl, (Go.Value.int Go.IntKind.i64 0), rfl, rfl, rfl⟩, ⟨_, Tryz.underlying2, by first | trivial | exact rfl | exact ⟨rfl, rfl⟩, rfl⟩⟩
theorem ok3 : TIok Tryz.prog 3 ti3 := ⟨⟨Tryz.t3, by kernel_rfl, rfl, rfl, (Go.Value.int Go.IntKind.i64 0), rfl, rfl, rfl⟩, ⟨_, Tryz.underlying3, by first | trivial | exact rfl | exact ⟨rfl, rfl⟩, rfl⟩⟩
theorem ok4 : TIok Tryz.prog 4 ti4 := ⟨⟨Tryz.t4, by kernel_rfl, rfl, rfl, (Go.Value.bool false), rfl, rfl, rfl⟩, ⟨_, Tryz.underlying4, by first | trivial | exact rfl | exact ⟨rfl, rfl⟩, rfl⟩⟩
theorem ok5 : TIok Tryz.prog 5 ti5 := ⟨⟨Tryz.t5, by kernel_rfl, rfl, rfl, (Go.Value.int Go.IntKind.u8 0), rfl, rfl, rfl⟩, ⟨_, Tryz.underlying5, by first | trivial | exact rfl | exact ⟨rfl, rfl⟩, rfl⟩⟩
theorem ok9 : TIok Tryz.prog 9 ti9 := ⟨⟨Tryz.t9, by kernel_rfl, rfl, rfl, (Go.Value.string { data := #[] }), rfl, rfl, rfl⟩, ⟨_, Tryz.underlying9, by first | trivial | exact rfl | exact ⟨rfl, rfl⟩, rfl⟩⟩
theorem ok21 : TIok Tryz.prog 21 ti21 := ⟨⟨Tryz.t21, by kernel_rfl, rfl, rfl, (Go.Value.int Go.IntKind.i32 0), rfl, rfl, rfl⟩, ⟨_, Tryz.underlying21, by first | trivial | exact rfl | exact ⟨rfl, rfl⟩, rfl⟩⟩
theorem ok22 : TIok Tryz.prog 22 ti22 := ⟨⟨Tryz.t22, by kernel_rfl, rfl, rfl, (Go.Value.slice none 0 0), rfl, rfl, rfl⟩, ⟨_, Tryz.underlying22, by first | trivial | exact rfl | exact ⟨rfl, rfl⟩, rfl⟩⟩
theorem ok27 : TIok Tryz.prog 27 ti27 := ⟨⟨Tryz.t27, by kernel_rfl, rfl, rfl, (Go.Value.agg #[Go.Value.int Go.IntKind.i64 0, Go.Value.int Go.IntKind.i64 0, Go.Value.int Go.IntKind.i64 0]), rfl, rfl, rfl⟩, ⟨_, Tryz.underlying27, by first | trivial | exact rfl | exact ⟨rfl, rfl⟩, rfl⟩⟩
theorem ok28 : TIok Tryz.prog 28 ti28 := ⟨⟨Tryz.t28, by kernel_rfl, rfl, rfl, (Go.Value.int Go.IntKind.i64 0), rfl, rfl, rfl⟩, ⟨_, Tryz.underlying28, by first | trivial | exact rfl | exact ⟨rfl, rfl⟩, rfl⟩⟩
theorem ok33 : TIok Tryz.prog 33 ti33 := ⟨⟨Tryz.t33, by kernel_rfl, rfl, rfl, (Go.Value.slice none 0 0), rfl, rfl, rfl⟩, ⟨_, Tryz.underlying33, by first | trivial | exact rfl | exact ⟨rfl, rfl⟩, rfl⟩⟩
theorem ok35 : TIok Tryz.prog 35 ti35 := ⟨⟨Tryz.t35, by kernel_rfl, rfl, rfl, (Go.Value.agg #[Go.Value.slice none 0 0, Go.Value.int Go.IntKind.i64 0, Go.Value.int Go.IntKind.i64 0, Go.Value.int Go.IntKind.i64 0]), rfl, rfl, rfl⟩, ⟨_, Tryz.underlying35, by first | trivial | exact rfl | exact ⟨rfl, rfl⟩, rfl⟩⟩
theorem ok37 : TIok Tryz.prog 37 ti37 := ⟨⟨Tryz.t37, by kernel_rfl, rfl, rfl, (Go.Value.slice none 0 0), rfl, rfl, rfl⟩, ⟨_, Tryz.underlying37, by first | trivial | exact rfl | exact ⟨rfl, rfl⟩, rfl⟩⟩
theorem ok46 : TIok Tryz.prog 46 ti46 := ⟨⟨Tryz.t46, by kernel_rfl, rfl, rfl, (Go.Value.agg #[Go.Value.int Go.IntKind.i64 0, Go.Value.int Go.IntKind.i64 0]), rfl, rfl, rfl⟩, ⟨_, Tryz.underlying46, by first | trivial | exact rfl | exact ⟨rfl, rfl⟩, rfl⟩⟩
theorem ok56 : TIok Tryz.prog 56 ti56 := ⟨⟨Tryz.t56, by kernel_rfl, rfl, rfl, (Go.Value.slice none 0 0), rfl, rfl, rfl⟩, ⟨_, Tryz.underlying56, by first | trivial | exact rfl | exact ⟨rfl, rfl⟩, rfl⟩⟩
theorem ok58 : TIok Tryz.prog 58 ti58 := ⟨⟨Tryz.t58, by kernel_rfl, rfl, rfl, (Go.Value.agg #[Go.Value.int Go.IntKind.i64 0, Go.Value.slice none 0 0]), rfl, rfl, rfl⟩, ⟨_, Tryz.underlying58, by first | trivial | exact rfl | exact ⟨rfl, rfl⟩, rfl⟩⟩
theorem ok66 : TIok Tryz.prog 66 ti66 := ⟨⟨Tryz.t66, by kernel_rfl, rfl, rfl, (Go.Value.slice none 0 0), rfl, rfl, rfl⟩, ⟨_, Tryz.underlying66, by first | trivial | exact rfl | exact ⟨rfl, rfl⟩, rfl⟩⟩
theorem ok70 : TIok Tryz.prog 70 ti70 := ⟨⟨Tryz.t70, by kernel_rfl, rfl, rfl, (Go.Value.agg #[Go.Value.int Go.IntKind.i64 0, Go.Value.int Go.IntKind.i64 0]), rfl, rfl, rfl⟩, ⟨_, Tryz.underlying70, by first | trivial | exact rfl | exact ⟨rfl, rfl⟩, rfl⟩⟩
theorem ok87 : TIok Tryz.prog 87 ti87 := ⟨⟨Tryz.t87, by kernel_rfl, rfl, rfl, (Go.Value.agg #[Go.Value.int Go.IntKind.i64 0, Go.Value.int Go.IntKind.i64 0, Go.Value.int Go.IntKind.i64 0]), rfl, rfl, rfl⟩, ⟨_, Tryz.underlying87, by first | trivial | exact rfl | exact ⟨rfl, rfl⟩, rfl⟩⟩
theorem ok92 : TIok Tryz.prog 92 ti92 := ⟨⟨Tryz.t92, by kernel_rfl, rfl, rfl, (Go.Value.slice none 0 0), rfl, rfl, rfl⟩, ⟨_, Tryz.underlying92, by first | trivial | exact rfl | exact ⟨rfl, rfl⟩, rfl⟩⟩
theorem ok102 : TIok Tryz.prog 102 ti102 := ⟨⟨Tryz.t102, by kernel_rfl, rfl, rfl, (Go.Value.agg #[Go.Value.string { data := #[] }, Go.Value.int Go.IntKind.i64 0, Go.Value.slice none 0 0]), rfl, rfl, rfl⟩, ⟨_, Tryz.underlying102, by first | trivial | exact rfl | exact ⟨rfl, rfl⟩, rfl⟩⟩
theorem ok104 : TIok Tryz.prog 104 ti104 := ⟨⟨Tryz.t104, by kernel_rfl, rfl, rfl, (Go.Value.agg #[Go.Value.string { data := #[] }, Go.Value.int Go.IntKind.i64 0, Go.Value.int Go.IntKind.i64 0]), rfl, rfl, rfl⟩, ⟨_, Tryz.underlying104, by first | trivial | exact rfl | exact ⟨rfl, rfl⟩, rfl⟩⟩
theorem ok106 : TIok Tryz.prog 106 ti106 := ⟨⟨Tryz.t106, by kernel_rfl, rfl, rfl, (Go.Value.agg #[Go.Value.int Go.IntKind.i64 0, Go.Value.int Go.IntKind.i64 0, Go.Value.int Go.IntKind.i64 0]), rfl, rfl, rfl⟩, ⟨_, Tryz.underlying106, by first | trivial | exact rfl | exact ⟨rfl, rfl⟩, rfl⟩⟩
theorem ok107 : TIok Tryz.prog 107 ti107 := ⟨⟨Tryz.t107, by kernel_rfl, rfl, rfl, (Go.Value.agg #[Go.Value.slice none 0 0, Go.Value.slice none 0 0, Go.Value.slice none 0 0]), rfl, rfl, rfl⟩, ⟨_, Tryz.underlying107, by first | trivial | exact rfl | exact ⟨rfl, rfl⟩, rfl⟩⟩
theorem ok109 : TIok Tryz.prog 109 ti109 := ⟨⟨Tryz.t109, by kernel_rfl, rfl, rfl, (Go.Value.agg #[Go.Value.slice none 0 0, Go.Value.int Go.IntKind.i64 0, Go.Value.int Go.IntKind.i64 0, Go.Value.int Go.IntKind.i64 0, Go.Value.slice none 0 0, Go.Value.slice none 0 0, Go.Value.slice none 0 0]), rfl, rfl, rfl⟩, ⟨_, Tryz.underlying109, by first | trivial | exact rfl | exact ⟨rfl, rfl⟩, rfl⟩⟩
theorem ok110 : TIok Tryz.prog 110 ti110 := ⟨⟨Tryz.t110, by kernel_rfl, rfl, rfl, (Go.Value.slice none 0 0), rfl, rfl, rfl⟩, ⟨_, Tryz.underlying110, by first | trivial | exact rfl | exact ⟨rfl, rfl⟩, rfl⟩⟩
theorem ok111 : TIok Tryz.prog 111 ti111 := ⟨⟨Tryz.t111, by kernel_rfl, rfl, rfl, (Go.Value.agg #[Go.Value.slice none 0 0, Go.Value.slice none 0 0, Go.Value.slice none 0 0]), rfl, rfl, rfl⟩, ⟨_, Tryz.underlying111, by first | trivial | exact rfl | exact ⟨rfl, rfl⟩, rfl⟩⟩
theorem ok115 : TIok Tryz.prog 115 ti115 := ⟨⟨Tryz.t115, by kernel_rfl, rfl, rfl, (Go.Value.slice none 0 0), rfl, rfl, rfl⟩, ⟨_, Tryz.underlying115, by first | trivial | exact rfl | exact ⟨rfl, rfl⟩, rfl⟩⟩
theorem ok118 : TIok Tryz.prog 118 ti118 := ⟨⟨Tryz.t118, by kernel_rfl, rfl, rfl, (Go.Value.slice none 0 0), rfl, rfl, rfl⟩, ⟨_, Tryz.underlying118, by first | trivial | exact rfl | exact ⟨rfl, rfl⟩, rfl⟩⟩
theorem ok132 : TIok Tryz.prog 132 ti132 := ⟨⟨Tryz.t132, by kernel_rfl, rfl, rfl, (Go.Value.nilFunc), rfl, rfl, rfl⟩, ⟨_, Tryz.underlying132, by first | trivial | exact rfl | exact ⟨rfl, rfl⟩, rfl⟩⟩
theorem ok143 : TIok Tryz.prog 143 ti143 := ⟨⟨Tryz.t143, by kernel_rfl, rfl, rfl, (Go.Value.slice none 0 0), rfl, rfl, rfl⟩, ⟨_, Tryz.underlying143, by first | trivial | exact rfl | exact ⟨rfl, rfl⟩, rfl⟩⟩
theorem ok146 : TIok Tryz.prog 146 ti146 := ⟨⟨Tryz.t146, by kernel_rfl, rfl, rfl, (Go.Value.nilFunc), rfl, rfl, rfl⟩, ⟨_, Tryz.underlying146, by first | trivial | exact rfl | exact ⟨rfl, rfl⟩, rfl⟩⟩
theorem ok148 : TIok Tryz.prog 148 ti148 := ⟨⟨Tryz.t148, by kernel_rfl, rfl, rfl, (Go.Value.agg #[Go.Value.slice none 0 0, Go.Value.int Go.IntKind.i64 0, Go.Value.int Go.IntKind.i64 0, Go.Value.int Go.IntKind.i64 0, Go.Value.slice none 0 0]), rfl, rfl, rfl⟩, ⟨_, Tryz.underlying148, by first | trivial | exact rfl | exact ⟨rfl, rfl⟩, rfl⟩⟩
theorem ok153 : TIok Tryz.prog 153 ti153 := ⟨⟨Tryz.t153, by kernel_rfl, rfl, rfl, (Go.Value.nilFunc), rfl, rfl, rfl⟩, ⟨_, Tryz.underlying153, by first | trivial | exact rfl | exact ⟨rfl, rfl⟩, rfl⟩⟩
theorem ok154 : TIok Tryz.prog 154 ti154 := ⟨⟨Tryz.t154, by kernel_rfl, rfl, rfl, (Go.Value.nilFunc), rfl, rfl, rfl⟩, ⟨_, Tryz.underlying154, by first | trivial | exact rfl | exact ⟨rfl, rfl⟩, rfl⟩⟩
theorem ok164 : TIok Tryz.prog 164 ti164 := ⟨⟨Tryz.t164, by kernel_rfl, rfl, rfl, (Go.Value.agg #[Go.Value.int Go.IntKind.i64 0, Go.Value.int Go.IntKind.i64 0, Go.Value.int Go.IntKind.i64 0]), rfl, rfl, rfl⟩, ⟨_, Tryz.underlying164, by first | trivial | exact rfl | exact ⟨rfl, rfl⟩, rfl⟩⟩
theorem ok173 : TIok Tryz.prog 173 ti173 := ⟨⟨Tryz.t173, by kernel_rfl, rfl, rfl, (Go.Value.nilFunc), rfl, rfl, rfl⟩, ⟨_, Tryz.underlying173, by first | trivial | exact rfl | exact ⟨rfl, rfl⟩, rfl⟩⟩
theorem ok191 : TIok Tryz.prog 191 ti191 := ⟨⟨Tryz.t191, by kernel_rfl, rfl, rfl, (Go.Value.slice none 0 0), rfl, rfl, rfl⟩, ⟨_, Tryz.underlying191, by first | trivial | exact rfl | exact ⟨rfl, rfl⟩, rfl⟩⟩
theorem ok194 : TIok Tryz.prog 194 ti194 := ⟨⟨Tryz.t194, by kernel_rfl, rfl, rfl, (Go.Value.int Go.IntKind.u64 0), rfl, rfl, rfl⟩, ⟨_, Tryz.underlying194, by first | trivial | exact rfl | exact ⟨rfl, rfl⟩, rfl⟩⟩
theorem ok197 : TIok Tryz.prog 197 ti197 := ⟨⟨Tryz.t197, by kernel_rfl, rfl, rfl, (Go.Value.slice none 0 0), rfl, rfl, rfl⟩, ⟨_, Tryz.underlying197, by first | trivial | exact rfl | exact ⟨rfl, rfl⟩, rfl⟩⟩
theorem ok199 : TIok Tryz.prog 199 ti199 := ⟨⟨Tryz.t199, by kernel_rfl, rfl, rfl, (Go.Value.nilFunc), rfl, rfl, rfl⟩, ⟨_, Tryz.underlying199, by first | trivial | exact rfl | exact ⟨rfl, rfl⟩, rfl⟩⟩
theorem ok204 : TIok Tryz.prog 204 ti204 := ⟨⟨Tryz.t204, by kernel_rfl, rfl, rfl, (Go.Value.nilIface), rfl, rfl, rfl⟩, ⟨_, Tryz.underlying204, by first | trivial | exact rfl | exact ⟨rfl, rfl⟩, rfl⟩⟩
theorem ok208 : TIok Tryz.prog 208 ti208 := ⟨⟨Tryz.t208, by kernel_rfl, rfl, rfl, (Go.Value.pointer none), rfl, rfl, rfl⟩, ⟨_, Tryz.underlying208, by first | trivial | exact rfl | exact ⟨rfl, rfl⟩, rfl⟩⟩
theorem ok209 : TIok Tryz.prog 209 ti209 := ⟨⟨Tryz.t209, by kernel_rfl, rfl, rfl, (Go.Value.agg #[Go.Value.pointer none, Go.Value.pointer none, Go.Value.pointer none]), rfl, rfl, rfl⟩, ⟨_, Tryz.underlying209, by first | trivial | exact rfl | exact ⟨rfl, rfl⟩, rfl⟩⟩
theorem ok210 : TIok Tryz.prog 210 ti210 := ⟨⟨Tryz.t210, by kernel_rfl, rfl, rfl, (Go.Value.pointer none), rfl, rfl, rfl⟩, ⟨_, Tryz.underlying210, by first | trivial | exact rfl | exact ⟨rfl, rfl⟩, rfl⟩⟩
theorem ok212 : TIok Tryz.prog 212 ti212 := ⟨⟨Tryz.t212, by kernel_rfl, rfl, rfl, (Go.Value.agg #[Go.Value.pointer none, Go.Value.slice none 0 0]), rfl, rfl, rfl⟩, ⟨_, Tryz.underlying212, by first | trivial | exact rfl | exact ⟨rfl, rfl⟩, rfl⟩⟩
theorem ok216 : TIok Tryz.prog 216 ti216 := ⟨⟨Tryz.t216, by kernel_rfl, rfl, rfl, (Go.Value.nilFunc), rfl, rfl, rfl⟩, ⟨_, Tryz.underlying216, by first | trivial | exact rfl | exact ⟨rfl, rfl⟩, rfl⟩⟩
theorem ok219 : TIok Tryz.prog 219 ti219 := ⟨⟨Tryz.t219, by kernel_rfl, rfl, rfl, (Go.Value.int Go.IntKind.i64 0), rfl, rfl, rfl⟩, ⟨_, Tryz.underlying219, by first | trivial | exact rfl | exact ⟨rfl, rfl⟩, rfl⟩⟩
theorem ok226 : TIok Tryz.prog 226 ti226 := ⟨⟨Tryz.t226, by kernel_rfl, rfl, rfl, (Go.Value.int Go.IntKind.u32 0), rfl, rfl, rfl⟩, ⟨_, Tryz.underlying226, by first | trivial | exact rfl | exact ⟨rfl, rfl⟩, rfl⟩⟩
theorem ok228 : TIok Tryz.prog 228 ti228 := ⟨⟨Tryz.t228, by kernel_rfl, rfl, rfl, (Go.Value.int Go.IntKind.u64 0), rfl, rfl, rfl⟩, ⟨_, Tryz.underlying228, by first | trivial | exact rfl | exact ⟨rfl, rfl⟩, rfl⟩⟩
theorem ok243 : TIok Tryz.prog 243 ti243 := ⟨⟨Tryz.t243, by kernel_rfl, rfl, rfl, (Go.Value.pointer none), rfl, rfl, rfl⟩, ⟨_, Tryz.underlying243, by first | trivial | exact rfl | exact ⟨rfl, rfl⟩, rfl⟩⟩
theorem ok244 : TIok Tryz.prog 244 ti244 := ⟨⟨Tryz.t244, by kernel_rfl, rfl, rfl, (Go.Value.int Go.IntKind.u64 0), rfl, rfl, rfl⟩, ⟨_, Tryz.underlying244, by first | trivial | exact rfl | exact ⟨rfl, rfl⟩, rfl⟩⟩
theorem ok258 : TIok Tryz.prog 258 ti258 := ⟨⟨Tryz.t258, by kernel_rfl, rfl, rfl, (Go.Value.int Go.IntKind.i64 0), rfl, rfl, rfl⟩, ⟨_, Tryz.underlying258, by first | trivial | exact rfl | exact ⟨rfl, rfl⟩, rfl⟩⟩
theorem ok261 : TIok Tryz.prog 261 ti261 := ⟨⟨Tryz.t261, by kernel_rfl, rfl, rfl, (Go.Value.pointer none), rfl, rfl, rfl⟩, ⟨_, Tryz.underlying261, by first | trivial | exact rfl | exact ⟨rfl, rfl⟩, rfl⟩⟩
theorem ok265 : TIok Tryz.prog 265 ti265 := ⟨⟨Tryz.t265, by kernel_rfl, rfl, rfl, (Go.Value.agg #[Go.Value.int Go.IntKind.u8 0, Go.Value.int Go.IntKind.u8 0, Go.Value.int Go.IntKind.u8 0, Go.Value.int Go.IntKind.u8 0, Go.Value.int Go.IntKind.u8 0, Go.Value.int Go.IntKind.u8 0, Go.Value.int Go.IntKind.u8 0, Go.Value.int Go.IntKind.u8 0, Go.Value.int Go.IntKind.u8 0, Go.Value.int Go.IntKind.u8 0, Go.Value.int Go.IntKind.u8 0, Go.Value.int Go.IntKind.u8 0, Go.Value.int Go.IntKind.u8 0, Go.Value.int Go.IntKind.u8 0, Go.Value.int Go.IntKind.u8 0, Go.Value.int Go.IntKind.u8 0, Go.Value.int Go.IntKind.u8 0, Go.Value.int Go.IntKind.u8 0, Go.Value.int Go.IntKind.u8 0, Go.Value.int Go.IntKind.u8 0, Go.Value.int Go.IntKind.u8 0, Go.Value.int Go.IntKind.u8 0, Go.Value.int Go.IntKind.u8 0, Go.Value.int Go.IntKind.u8 0]), rfl, rfl, rfl⟩, ⟨_, Tryz.underlying265, by first | trivial | exact rfl | exact ⟨rfl, rfl⟩, rfl⟩⟩
theorem ok284 : TIok Tryz.prog 284 ti284 := ⟨⟨Tryz.t284, by kernel_rfl, rfl, rfl, (Go.Value.agg #[Go.Value.string { data := #[] }, Go.Value.string { data := #[] }, Go.Value.nilIface]), rfl, rfl, rfl⟩, ⟨_, Tryz.underlying284, by first | trivial | exact rfl | exact ⟨rfl, rfl⟩, rfl⟩⟩
theorem ok287 : TIok Tryz.prog 287 ti287 := ⟨⟨Tryz.t287, by kernel_rfl, rfl, rfl, (Go.Value.agg #[Go.Value.int Go.IntKind.u64 0, Go.Value.int Go.IntKind.u64 0, Go.Value.int Go.IntKind.u64 0, Go.Value.int Go.IntKind.u64 0, Go.Value.int Go.IntKind.u64 0, Go.Value.int Go.IntKind.u64 0, Go.Value.int Go.IntKind.u64 0, Go.Value.int Go.IntKind.u64 0, Go.Value.int Go.IntKind.u64 0, Go.Value.int Go.IntKind.u64 0, Go.Value.int Go.IntKind.u64 0, Go.Value.int Go.IntKind.u64 0, Go.Value.int Go.IntKind.u64 0, Go.Value.int Go.IntKind.u64 0, Go.Value.int Go.IntKind.u64 0, Go.Value.int Go.IntKind.u64 0, Go.Value.int Go.IntKind.u64 0, Go.Value.int Go.IntKind.u64 0, Go.Value.int Go.IntKind.u64 0, Go.Value.int Go.IntKind.u64 0]), rfl, rfl, rfl⟩, ⟨_, Tryz.underlying287, by first | trivial | exact rfl | exact ⟨rfl, rfl⟩, rfl⟩⟩
theorem ok293 : TIok Tryz.prog 293 ti293 := ⟨⟨Tryz.t293, by kernel_rfl, rfl, rfl, (Go.Value.agg #[Go.Value.int Go.IntKind.u8 0, Go.Value.int Go.IntKind.u8 0]), rfl, rfl, rfl⟩, ⟨_, Tryz.underlying293, by first | trivial | exact rfl | exact ⟨rfl, rfl⟩, rfl⟩⟩
theorem ok294 : TIok Tryz.prog 294 ti294 := ⟨⟨Tryz.t294, by kernel_rfl, rfl, rfl, (Go.Value.agg #[Go.Value.int Go.IntKind.u8 0, Go.Value.int Go.IntKind.u8 0, Go.Value.int Go.IntKind.u8 0, Go.Value.int Go.IntKind.u8 0, Go.Value.int Go.IntKind.u8 0, Go.Value.int Go.IntKind.u8 0, Go.Value.int Go.IntKind.u8 0, Go.Value.int Go.IntKind.u8 0, Go.Value.int Go.IntKind.u8 0, Go.Value.int Go.IntKind.u8 0, Go.Value.int Go.IntKind.u8 0, Go.Value.int Go.IntKind.u8 0, Go.Value.int Go.IntKind.u8 0, Go.Value.int Go.IntKind.u8 0, Go.Value.int Go.IntKind.u8 0, Go.Value.int Go.IntKind.u8 0, Go.Value.int Go.IntKind.u8 0, Go.Value.int Go.IntKind.u8 0, Go.Value.int Go.IntKind.u8 0, Go.Value.int Go.IntKind.u8 0, Go.Value.int Go.IntKind.u8 0, Go.Value.int Go.IntKind.u8 0, Go.Value.int Go.IntKind.u8 0, Go.Value.int Go.IntKind.u8 0, Go.Value.int Go.IntKind.u8 0, Go.Value.int Go.IntKind.u8 0, Go.Value.int Go.IntKind.u8 0, Go.Value.int Go.IntKind.u8 0, Go.Value.int Go.IntKind.u8 0, Go.Value.int Go.IntKind.u8 0, Go.Value.int Go.IntKind.u8 0, Go.Value.int Go.IntKind.u8 0]), rfl, rfl, rfl⟩, ⟨_, Tryz.underlying294, by first | trivial | exact rfl | exact ⟨rfl, rfl⟩, rfl⟩⟩
theorem ok298 : TIok Tryz.prog 298 ti298 := ⟨⟨Tryz.t298, by kernel_rfl, rfl, rfl, (Go.Value.pointer none), rfl, rfl, rfl⟩, ⟨_, Tryz.underlying298, by first | trivial | exact rfl | exact ⟨rfl, rfl⟩, rfl⟩⟩
theorem ok300 : TIok Tryz.prog 300 ti300 := ⟨⟨Tryz.t300, by kernel_rfl, rfl, rfl, (Go.Value.agg #[Go.Value.string { data := #[] }]), rfl, rfl, rfl⟩, ⟨_, Tryz.underlying300, by first | trivial | exact rfl | exact ⟨rfl, rfl⟩, rfl⟩⟩
theorem ok302 : TIok Tryz.prog 302 ti302 := ⟨⟨Tryz.t302, by kernel_rfl, rfl, rfl, (Go.Value.agg #[Go.Value.int Go.IntKind.u8 0, Go.Value.int Go.IntKind.u8 0, Go.Value.int Go.IntKind.u8 0, Go.Value.int Go.IntKind.u8 0, Go.Value.int Go.IntKind.u8 0, Go.Value.int Go.IntKind.u8 0, Go.Value.int Go.IntKind.u8 0, Go.Value.int Go.IntKind.u8 0, Go.Value.int Go.IntKind.u8 0, Go.Value.int Go.IntKind.u8 0, Go.Value.int Go.IntKind.u8 0, Go.Value.int Go.IntKind.u8 0, Go.Value.int Go.IntKind.u8 0, Go.Value.int Go.IntKind.u8 0, Go.Value.int Go.IntKind.u8 0, Go.Value.int Go.IntKind.u8 0, Go.Value.int Go.IntKind.u8 0, Go.Value.int Go.IntKind.u8 0, Go.Value.int Go.IntKind.u8 0, Go.Value.int Go.IntKind.u8 0, Go.Value.int Go.IntKind.u8 0, Go.Value.int Go.IntKind.u8 0, Go.Value.int Go.IntKind.u8 0, Go.Value.int Go.IntKind.u8 0, Go.Value.int Go.IntKind.u8 0, Go.Value.int Go.IntKind.u8 0, Go.Value.int Go.IntKind.u8 0, Go.Value.int Go.IntKind.u8 0, Go.Value.int Go.IntKind.u8 0, Go.Value.int Go.IntKind.u8 0, Go.Value.int Go.IntKind.u8 0, Go.Value.int Go.IntKind.u8 0]), rfl, rfl, rfl⟩, ⟨_, Tryz.underlying302, by first | trivial | exact rfl | exact ⟨rfl, rfl⟩, rfl⟩⟩
theorem ok303 : TIok Tryz.prog 303 ti303 := ⟨⟨Tryz.t303, by kernel_rfl, rfl, rfl, (Go.Value.agg #[Go.Value.int Go.IntKind.u8 0, Go.Value.int Go.IntKind.u8 0, Go.Value.int Go.IntKind.u8 0, Go.Value.int Go.IntKind.u8 0, Go.Value.int Go.IntKind.u8 0, Go.Value.int Go.IntKind.u8 0, Go.Value.int Go.IntKind.u8 0, Go.Value.int Go.IntKind.u8 0, Go.Value.int Go.IntKind.u8 0, Go.Value.int Go.IntKind.u8 0, Go.Value.int Go.IntKind.u8 0, Go.Value.int Go.IntKind.u8 0, Go.Value.int Go.IntKind.u8 0, Go.Value.int Go.IntKind.u8 0, Go.Value.int Go.IntKind.u8 0, Go.Value.int Go.IntKind.u8 0, Go.Value.int Go.IntKind.u8 0, Go.Value.int Go.IntKind.u8 0, Go.Value.int Go.IntKind.u8 0, Go.Value.int Go.IntKind.u8 0, Go.Value.int Go.IntKind.u8 0, Go.Value.int Go.IntKind.u8 0, Go.Value.int Go.IntKind.u8 0, Go.Value.int Go.IntKind.u8 0, Go.Value.int Go.IntKind.u8 0, Go.Value.int Go.IntKind.u8 0, Go.Value.int Go.IntKind.u8 0, Go.Value.int Go.IntKind.u8 0, Go.Value.int Go.IntKind.u8 0, Go.Value.int Go.IntKind.u8 0, Go.Value.int Go.IntKind.u8 0, Go.Value.int Go.IntKind.u8 0, Go.Value.int Go.IntKind.u8 0, Go.Value.int Go.IntKind.u8 0, Go.Value.int Go.IntKind.u8 0, Go.Value.int Go.IntKind.u8 0, Go.Value.int Go.IntKind.u8 0, Go.Value.int Go.IntKind.u8 0, Go.Value.int Go.IntKind.u8 0, Go.Value.int Go.IntKind.u8 0, Go.Value.int Go.IntKind.u8 0, Go.Value.int Go.IntKind.u8 0, Go.Value.int Go.IntKind.u8 0, Go.Value.int Go.IntKind.u8 0, Go.Value.int Go.IntKind.u8 0, Go.Value.int Go.IntKind.u8 0, Go.Value.int Go.IntKind.u8 0, Go.Value.int Go.IntKind.u8 0, Go.Value.int Go.IntKind.u8 0, Go.Value.int Go.IntKind.u8 0, Go.Value.int Go.IntKind.u8 0, Go.Value.int Go.IntKind.u8 0, Go.Value.int Go.IntKind.u8 0, Go.Value.int Go.IntKind.u8 0, Go.Value.int Go.IntKind.u8 0, Go.Value.int Go.IntKind.u8 0, Go.Value.int Go.IntKind.u8 0, Go.Value.int Go.IntKind.u8 0, Go.Value.int Go.IntKind.u8 0, Go.Value.int Go.IntKind.u8 0, Go.Value.int Go.IntKind.u8 0, Go.Value.int Go.IntKind.u8 0, Go.Value.int Go.IntKind.u8 0, Go.Value.int Go.IntKind.u8 0]), rfl, rfl, rfl⟩, ⟨_, Tryz.underlying303, by first | trivial | exact rfl | exact ⟨rfl, rfl⟩, rfl⟩⟩
theorem tyAll : ∀ p ∈ tyL, TIok Tryz.prog p.1 p.2 := by
  unfold tyL
  refine List.forall_mem_cons.2 ⟨ok2, List.forall_mem_cons.2 ⟨ok3, List.forall_mem_cons.2 ⟨ok4, List.forall_mem_cons.2 ⟨ok5, List.forall_mem_cons.2 ⟨ok9, List.forall_mem_cons.2 ⟨ok21, List.forall_mem_cons.2 ⟨ok22, List.forall_mem_cons.2 ⟨ok27, List.forall_mem_cons.2 ⟨ok28, List.forall_mem_cons.2 ⟨ok33, List.forall_mem_cons.2 ⟨ok35, List.forall_mem_cons.2 ⟨ok37, List.forall_mem_cons.2 ⟨ok46, List.forall_mem_cons.2 ⟨ok56, List.forall_mem_cons.2 ⟨ok58, List.forall_mem_cons.2 ⟨ok66, List.forall_mem_cons.2 ⟨ok70, List.forall_mem_cons.2 ⟨ok87, List.forall_mem_cons.2 ⟨ok92, List.forall_mem_cons.2 ⟨ok102, List.forall_mem_cons.2 ⟨ok104, List.forall_mem_cons.2 ⟨ok106, List.forall_mem_cons.2 ⟨ok107, List.forall_mem_cons.2 ⟨ok109, List.forall_mem_cons.2 ⟨ok110, List.forall_mem_cons.2 ⟨ok111, List.forall_mem_cons.2 ⟨ok115, List.forall_mem_cons.2 ⟨ok118, List.forall_mem_cons.2 ⟨ok132, List.forall_mem_cons.2 ⟨ok143, List.forall_mem_cons.2 ⟨ok146, List.forall_mem_cons.2 ⟨ok148, List.forall_mem_cons.2 ⟨ok153, List.forall_mem_cons.2 ⟨ok154, List.forall_mem_cons.2 ⟨ok164, List.forall_mem_cons.2 ⟨ok173, List.forall_mem_cons.2 ⟨ok191, List.forall_mem_cons.2 ⟨ok194, List.forall_mem_cons.2 ⟨ok197, List.forall_mem_cons.2 ⟨ok199, List.forall_mem_cons.2 ⟨ok204, List.forall_mem_cons.2 ⟨ok208, List.forall_mem_cons.2 ⟨ok209, List.forall_mem_cons.2 ⟨ok210, List.forall_mem_cons.2 ⟨ok212, List.forall_mem_cons.2 ⟨ok216, List.forall_mem_cons.2 ⟨ok219, List.forall_mem_cons.2 ⟨ok226, List.forall_mem_cons.2 ⟨ok228, List.forall_mem_cons.2 ⟨ok243, List.forall_mem_cons.2 ⟨ok244, List.forall_mem_cons.2 ⟨ok258, List.forall_mem_cons.2 ⟨ok261, List.forall_mem_cons.2 ⟨ok265, List.forall_mem_cons.2 ⟨ok284, List.forall_mem_cons.2 ⟨ok287, List.forall_mem_cons.2 ⟨ok293, List.forall_mem_cons.2 ⟨ok294, List.forall_mem_cons.2 ⟨ok298, List.forall_mem_cons.2 ⟨ok300, List.forall_mem_cons.2 ⟨ok302, List.forall_mem_cons.2 ⟨ok303, fun _ h => nomatch h⟩⟩⟩⟩⟩⟩⟩⟩⟩⟩⟩⟩⟩⟩⟩⟩⟩⟩⟩⟩⟩⟩⟩⟩⟩⟩⟩⟩⟩⟩⟩⟩⟩⟩⟩⟩⟩⟩⟩⟩⟩⟩⟩⟩⟩⟩⟩⟩⟩⟩⟩⟩⟩⟩⟩⟩⟩⟩⟩⟩⟩⟩
theorem tyOk : TOk Tryz.prog tyTab := fun t ti h => tyAll (t, ti) (lkT_mem h)
set_option linter.unusedVariables false
noncomputable def mTab (t : TypeId) (name : String) : Option FuncId :=
  none
def qTab (t : TypeId) : Option Nat :=
  if t = 27 then some 3 else if t = 70 then some 2 else if t = 87 then some 3 else if t = 164 then some 3 else none
theorem q27 (w : World) (op : BinOp) (x y : Operand) (xs ys : List Int) (h1 : xs.length = 3) (h2 : ys.length = 3) :
    (eqGuard op 27 x y (.agg (intCells xs)) (.agg (intCells ys))).run Tryz.prog w = .ok () w ∧
    (binOp .eql 27 (.agg (intCells xs)) (.agg (intCells ys))).run Tryz.prog w = .ok (.bool (xs == ys)) w ∧
    (binOp .neq 27 (.agg (intCells xs)) (.agg (intCells ys))).run Tryz.prog w = .ok (.bool (!(xs == ys))) w := by
  have hm : Tryz.prog.eqGuardType Tryz.prog.depth 27 = false := by kernel_rfl
  match xs, ys, h1, h2 with
  | [a0, a1, a2], [b0, b1, b2], _, _ =>
    have key : (Op.equalIn 10000 27 (.agg (intCells [a0, a1, a2])) (.agg (intCells [b0, b1, b2]))).run Tryz.prog w = .ok ([a0, a1, a2] == [b0, b1, b2]) w := by
      simp only [intCells, List.map_cons, List.map_nil]
      simp [go_sem, List.cons_beq_cons]
      try grind
    exact ⟨run_eqGuard_agg w op 27 x y _ _ hm, by rw [run_eql_struct, key]; rfl, by rw [run_neq_struct, key]; rfl⟩
theorem q70 (w : World) (op : BinOp) (x y : Operand) (xs ys : List Int) (h1 : xs.length = 2) (h2 : ys.length = 2) :
    (eqGuard op 70 x y (.agg (intCells xs)) (.agg (intCells ys))).run Tryz.prog w = .ok () w ∧
    (binOp .eql 70 (.agg (intCells xs)) (.agg (intCells ys))).run Tryz.prog w = .ok (.bool (xs == ys)) w ∧
    (binOp .neq 70 (.agg (intCells xs)) (.agg (intCells ys))).run Tryz.prog w = .ok (.bool (!(xs == ys))) w := by
  have hm : Tryz.prog.eqGuardType Tryz.prog.depth 70 = false := by kernel_rfl
  match xs, ys, h1, h2 with
  | [a0, a1], [b0, b1], _, _ =>
    have key : (Op.equalIn 10000 70 (.agg (intCells [a0, a1])) (.agg (intCells [b0, b1]))).run Tryz.prog w = .ok ([a0, a1] == [b0, b1]) w := by
      simp only [intCells, List.map_cons, List.map_nil]
      simp [go_sem, List.cons_beq_cons]
      try grind
    exact ⟨run_eqGuard_agg w op 70 x y _ _ hm, by rw [run_eql_struct, key]; rfl, by rw [run_neq_struct, key]; rfl⟩
theorem q87 (w : World) (op : BinOp) (x y : Operand) (xs ys : List Int) (h1 : xs.length = 3) (h2 : ys.length = 3) :
    (eqGuard op 87 x y (.agg (intCells xs)) (.agg (intCells ys))).run Tryz.prog w = .ok () w ∧
    (binOp .eql 87 (.agg (intCells xs)) (.agg (intCells ys))).run Tryz.prog w = .ok (.bool (xs == ys)) w ∧
    (binOp .neq 87 (.agg (intCells xs)) (.agg (intCells ys))).run Tryz.prog w = .ok (.bool (!(xs == ys))) w := by
  have hm : Tryz.prog.eqGuardType Tryz.prog.depth 87 = false := by kernel_rfl
  match xs, ys, h1, h2 with
  | [a0, a1, a2], [b0, b1, b2], _, _ =>
    have key : (Op.equalIn 10000 87 (.agg (intCells [a0, a1, a2])) (.agg (intCells [b0, b1, b2]))).run Tryz.prog w = .ok ([a0, a1, a2] == [b0, b1, b2]) w := by
      simp only [intCells, List.map_cons, List.map_nil]
      simp [go_sem, List.cons_beq_cons]
      try grind
    exact ⟨run_eqGuard_agg w op 87 x y _ _ hm, by rw [run_eql_struct, key]; rfl, by rw [run_neq_struct, key]; rfl⟩
theorem q164 (w : World) (op : BinOp) (x y : Operand) (xs ys : List Int) (h1 : xs.length = 3) (h2 : ys.length = 3) :
    (eqGuard op 164 x y (.agg (intCells xs)) (.agg (intCells ys))).run Tryz.prog w = .ok () w ∧
    (binOp .eql 164 (.agg (intCells xs)) (.agg (intCells ys))).run Tryz.prog w = .ok (.bool (xs == ys)) w ∧
    (binOp .neq 164 (.agg (intCells xs)) (.agg (intCells ys))).run Tryz.prog w = .ok (.bool (!(xs == ys))) w := by
  have hm : Tryz.prog.eqGuardType Tryz.prog.depth 164 = false := by kernel_rfl
  match xs, ys, h1, h2 with
  | [a0, a1, a2], [b0, b1, b2], _, _ =>
    have key : (Op.equalIn 10000 164 (.agg (intCells [a0, a1, a2])) (.agg (intCells [b0, b1, b2]))).run Tryz.prog w = .ok ([a0, a1, a2] == [b0, b1, b2]) w := by
      simp only [intCells, List.map_cons, List.map_nil]
      simp [go_sem, List.cons_beq_cons]
      try grind
    exact ⟨run_eqGuard_agg w op 164 x y _ _ hm, by rw [run_eql_struct, key]; rfl, by rw [run_neq_struct, key]; rfl⟩
def sTab (t : TypeId) : Option (List Bool) :=
  if t = 104 then some [true, false, false] else if t = 300 then some [true] else none
theorem s104 (w : World) (op : BinOp) (x y : Operand) (us vs : List SV) (h1 : us.map SV.isS = [true, false, false]) (h2 : vs.map SV.isS = [true, false, false]) :
    (eqGuard op 104 x y (.agg (svCells us)) (.agg (svCells vs))).run Tryz.prog w = .ok () w ∧
    (binOp .eql 104 (.agg (svCells us)) (.agg (svCells vs))).run Tryz.prog w = .ok (.bool (svEqL us vs)) w ∧
    (binOp .neq 104 (.agg (svCells us)) (.agg (svCells vs))).run Tryz.prog w = .ok (.bool (!(svEqL us vs))) w := by
  have hm : Tryz.prog.eqGuardType Tryz.prog.depth 104 = false := by kernel_rfl
  obtain ⟨a0, la0, rfl, ea0, ah0⟩ := sv_cons h1
  obtain ⟨a0, rfl⟩ := sv_s ea0
  obtain ⟨a1, la1, rfl, ea1, ah1⟩ := sv_cons ah0
  obtain ⟨a1, rfl⟩ := sv_i ea1
  obtain ⟨a2, la2, rfl, ea2, ah2⟩ := sv_cons ah1
  obtain ⟨a2, rfl⟩ := sv_i ea2
  obtain rfl := sv_nil ah2
  obtain ⟨b0, lb0, rfl, eb0, bh0⟩ := sv_cons h2
  obtain ⟨b0, rfl⟩ := sv_s eb0
  obtain ⟨b1, lb1, rfl, eb1, bh1⟩ := sv_cons bh0
  obtain ⟨b1, rfl⟩ := sv_i eb1
  obtain ⟨b2, lb2, rfl, eb2, bh2⟩ := sv_cons bh1
  obtain ⟨b2, rfl⟩ := sv_i eb2
  obtain rfl := sv_nil bh2
  have key : (Op.equalIn 10000 104 (.agg (svCells [.s a0, .i a1, .i a2])) (.agg (svCells [.s b0, .i b1, .i b2]))).run Tryz.prog w = .ok (svEqL [.s a0, .i a1, .i a2] [.s b0, .i b1, .i b2]) w := by
    simp only [svCells, List.map_cons, List.map_nil, SV.val]
    simp only [svEqL, svEq, Bool.and_true]
    simp [go_sem]
    try (repeat' split) <;> simp_all
  exact ⟨run_eqGuard_agg w op 104 x y _ _ hm, by rw [run_eql_struct, key]; rfl, by rw [run_neq_struct, key]; rfl⟩
theorem s300 (w : World) (op : BinOp) (x y : Operand) (us vs : List SV) (h1 : us.map SV.isS = [true]) (h2 : vs.map SV.isS = [true]) :
    (eqGuard op 300 x y (.agg (svCells us)) (.agg (svCells vs))).run Tryz.prog w = .ok () w ∧
    (binOp .eql 300 (.agg (svCells us)) (.agg (svCells vs))).run Tryz.prog w = .ok (.bool (svEqL us vs)) w ∧
    (binOp .neq 300 (.agg (svCells us)) (.agg (svCells vs))).run Tryz.prog w = .ok (.bool (!(svEqL us vs))) w := by
  have hm : Tryz.prog.eqGuardType Tryz.prog.depth 300 = false := by kernel_rfl
  obtain ⟨a0, la0, rfl, ea0, ah0⟩ := sv_cons h1
  obtain ⟨a0, rfl⟩ := sv_s ea0
  obtain rfl := sv_nil ah0
  obtain ⟨b0, lb0, rfl, eb0, bh0⟩ := sv_cons h2
  obtain ⟨b0, rfl⟩ := sv_s eb0
  obtain rfl := sv_nil bh0
  have key : (Op.equalIn 10000 300 (.agg (svCells [.s a0])) (.agg (svCells [.s b0]))).run Tryz.prog w = .ok (svEqL [.s a0] [.s b0]) w := by
    simp only [svCells, List.map_cons, List.map_nil, SV.val]
    simp only [svEqL, svEq, Bool.and_true]
    simp [go_sem]
    try (repeat' split) <;> simp_all
  exact ⟨run_eqGuard_agg w op 300 x y _ _ hm, by rw [run_eql_struct, key]; rfl, by rw [run_neq_struct, key]; rfl⟩
theorem qv27 : qTab 27 = some 3 := rfl
theorem qv70 : qTab 70 = some 2 := rfl
theorem qv87 : qTab 87 = some 3 := rfl
theorem qv164 : qTab 164 = some 3 := rfl
theorem sv104 : sTab 104 = some [true, false, false] := rfl
theorem qn104 : qTab 104 = none := rfl
theorem sv300 : sTab 300 = some [true] := rfl
theorem qn300 : qTab 300 = none := rfl
noncomputable def ev : Ev := { P := Tryz.prog, T := tyTab, M := mTab, Q := qTab, S := sTab }
theorem ev_T : ev.T = tyTab := rfl
theorem ev_P : ev.P = Tryz.prog := rfl
theorem ev_Q : ev.Q = qTab := rfl
theorem ev_M : ev.M = mTab := rfl
theorem ev_S : ev.S = sTab := rfl
theorem evOk : EvOk ev := by
  refine ⟨tyOk, ?_, ?_, ?_, by kernel_rfl⟩
  · intro t name f h v w
    unfold ev mTab at h; dsimp only at h
    cases h
  · intro t n h w op x y xs ys h1 h2
    unfold ev qTab at h; dsimp only at h
    by_cases c27 : t = 27
    · rw [if_pos c27] at h; subst c27; cases h; exact q27 w op x y xs ys h1 h2
    rw [if_neg c27] at h
    by_cases c70 : t = 70
    · rw [if_pos c70] at h; subst c70; cases h; exact q70 w op x y xs ys h1 h2
    rw [if_neg c70] at h
    by_cases c87 : t = 87
    · rw [if_pos c87] at h; subst c87; cases h; exact q87 w op x y xs ys h1 h2
    rw [if_neg c87] at h
    by_cases c164 : t = 164
    · rw [if_pos c164] at h; subst c164; cases h; exact q164 w op x y xs ys h1 h2
    rw [if_neg c164] at h
    cases h
  · intro t ks h w op x y us vs h1 h2
    unfold ev sTab at h; dsimp only at h
    by_cases c104 : t = 104
    · rw [if_pos c104] at h; subst c104; cases h; exact s104 w op x y us vs h1 h2
    rw [if_neg c104] at h
    by_cases c300 : t = 300
    · rw [if_pos c300] at h; subst c300; cases h; exact s300 w op x y us vs h1 h2
    rw [if_neg c300] at h
    cases h
end Go.Proofs.YtabmhfmglhjmjaaGreatDoor
namespace Go.Proofs.YtabmhfmglhjmjaaGreatDoor
open Go.Ab Go.RowKit
attribute [go_sem] iv isl zrep_ints zrep_one zrep_zero splice_one List.set_cons_zero List.set_cons_succ ints_nil ints_length ints_one ints_plain ints_append ints_snoc ints_drop ints_take wpA_nil wpA_cons runO' opK moK gdB_true' gdB_false' pkB_true pkB_false isMut inMu sop mop dOk St.ge St.put geF lk_nil' lk_cons' ofV entry entryFr bop nilC bopN bopI bopS toSVs? SV.isS toU8s? svEqL svEq shrA_one inR_S withY_S isNilP uop pk conv loadA cellsK' fieldA fieldV indexA indexV exA nilA mkIf buildA buildSlA makeSlA fillK placeA AV.cells? plainL AV.plain sliceA bnd lenA mmA mm callV Ab.newRow appendA elems hset' toInts? ev_T ev_P ev_Q ev_M ev_S inR_P inR_T inR_M inR_Q inR_Y withY_P withY_T withY_M withY_Q withY_Y yldA bsplit_true bsplit_false cond_true cond_false Bool.and_true Bool.true_and Bool.and_false Bool.false_and Bool.not_true Bool.not_false List.elem_nil List.elem_cons beq_self_eq_true and_true true_and List.getElem?_toArray List.getElem?_cons_zero List.getElem?_cons_succ List.getElem?_nil Option.bind_some Option.map_some Option.map_none Option.getD_some Option.getD_none List.map_cons List.map_nil List.length_cons List.length_nil List.nil_append List.cons_append List.append_nil List.drop_zero List.drop_succ_cons List.take_succ_cons List.take_zero List.take_nil List.drop_nil Nat.zero_add Nat.add_zero Nat.zero_le ne_eq not_false_eq_true not_true_eq_false undef List.cons.injEq Option.some.injEq
attribute [go_sem] tab2 tab3 tab4 tab5 tab9 tab21 tab22 tab27 tab28 tab33 tab35 tab37 tab46 tab56 tab58 tab66 tab70 tab87 tab92 tab102 tab104 tab106 tab107 tab109 tab110 tab111 tab115 tab118 tab132 tab143 tab146 tab148 tab153 tab154 tab164 tab173 tab191 tab194 tab197 tab199 tab204 tab208 tab209 tab210 tab212 tab216 tab219 tab226 tab228 tab243 tab244 tab258 tab261 tab265 tab284 tab287 tab293 tab294 tab298 tab300 tab302 tab303 qv27 qv70 qv87 qv164 sv104 qn104 sv300 qn300
attribute [go_sem] ti2 ti3 ti4 ti5 ti9 ti21 ti22 ti27 ti28 ti33 ti35 ti37 ti46 ti56 ti58 ti66 ti70 ti87 ti92 ti102 ti104 ti106 ti107 ti109 ti110 ti111 ti115 ti118 ti132 ti143 ti146 ti148 ti153 ti154 ti164 ti173 ti191 ti194 ti197 ti199 ti204 ti208 ti209 ti210 ti212 ti216 ti219 ti226 ti228 ti243 ti244 ti258 ti261 ti265 ti284 ti287 ti293 ti294 ti298 ti300 ti302 ti303
attribute [go_sem] Tryz.ntmps0 Tryz.ntmps1 Tryz.ntmps2 Tryz.ntmps3 Tryz.ntmps4 Tryz.ntmps5 Tryz.ntmps6 Tryz.ntmps7 Tryz.ntmps8 Tryz.ntmps9 Tryz.ntmps10 Tryz.ntmps11 Tryz.ntmps12 Tryz.ntmps13 Tryz.ntmps14 Tryz.ntmps15 Tryz.ntmps16 Tryz.ntmps17 Tryz.ntmps18 Tryz.ntmps19 Tryz.ntmps20 Tryz.ntmps21 Tryz.ntmps22 Tryz.ntmps23 Tryz.ntmps24 Tryz.ntmps25 Tryz.ntmps26 Tryz.ntmps27 Tryz.ntmps28 Tryz.ntmps29 Tryz.ntmps30 Tryz.ntmps31 Tryz.ntmps32 Tryz.ntmps33 Tryz.ntmps34 Tryz.ntmps35 Tryz.ntmps36 Tryz.ntmps37 Tryz.ntmps38 Tryz.ntmps39 Tryz.ntmps40 Tryz.ntmps41 Tryz.ntmps42 Tryz.ntmps43 Tryz.ntmps44 Tryz.ntmps45 Tryz.ntmps46 Tryz.ntmps47 Tryz.ntmps48 Tryz.ntmps49 Tryz.ntmps50 Tryz.ntmps51 Tryz.ntmps52 Tryz.ntmps53 Tryz.ntmps54 Tryz.ntmps55 Tryz.ntmps56 Tryz.ntmps57 Tryz.ntmps58 Tryz.ntmps59 Tryz.ntmps60 Tryz.ntmps61 Tryz.ntmps62 Tryz.ntmps63 Tryz.ntmps64 Tryz.ntmps65 Tryz.ntmps66 Tryz.ntmps67 Tryz.ntmps68 Tryz.ntmps69 Tryz.ntmps70 Tryz.ntmps71 Tryz.ntmps72 Tryz.ntmps73 Tryz.ntmps74 Tryz.ntmps75 Tryz.ntmps76 Tryz.ntmps77 Tryz.ntmps78 Tryz.ntmps79 Tryz.ntmps80 Tryz.ntmps81 Tryz.ntmps82 Tryz.ntmps83 Tryz.ntmps84 Tryz.ntmps85 Tryz.ntmps86 Tryz.ntmps87 Tryz.ntmps88 Tryz.ntmps89 Tryz.ntmps90 Tryz.ntmps91 Tryz.ntmps92 Tryz.ntmps93 Tryz.ntmps94 Tryz.ntmps95 Tryz.ntmps96 Tryz.ntmps97 Tryz.ntmps98 Tryz.ntmps99 Tryz.ntmps100 Tryz.ntmps101 Tryz.ntmps102 Tryz.ntmps103 Tryz.ntmps104 Tryz.ntmps105 Tryz.ntmps106 Tryz.ntmps107 Tryz.ntmps108 Tryz.ntmps109 Tryz.ntmps110 Tryz.ntmps111 Tryz.ntmps112 Tryz.ntmps113 Tryz.ntmps114 Tryz.ntmps115 Tryz.ntmps116 Tryz.ntmps117 Tryz.ntmps118 Tryz.ntmps119 Tryz.ntmps120 Tryz.ntmps121 Tryz.ntmps122 Tryz.ntmps123 Tryz.ntmps124 Tryz.ntmps125 Tryz.ntmps126 Tryz.ntmps127 Tryz.ntmps128 Tryz.ntmps129 Tryz.ntmps130 Tryz.ntmps131 Tryz.ntmps132 Tryz.ntmps133 Tryz.ntmps134 Tryz.ntmps135 Tryz.ntmps136 Tryz.ntmps137 Tryz.ntmps138 Tryz.ntmps139 Tryz.ntmps140 Tryz.ntmps141 Tryz.ntmps142 Tryz.ntmps143 Tryz.ntmps144 Tryz.ntmps145 Tryz.ntmps146 Tryz.ntmps147 Tryz.ntmps148 Tryz.ntmps149 Tryz.ntmps150 Tryz.ntmps151 Tryz.ntmps152 Tryz.ntmps153 Tryz.ntmps154 Tryz.ntmps155 Tryz.ntmps156 Tryz.ntmps157 Tryz.ntmps158 Tryz.ntmps159 Tryz.ntmps160 Tryz.ntmps161 Tryz.ntmps162 Tryz.ntmps163 Tryz.ntmps164 Tryz.ntmps165 Tryz.ntmps166 Tryz.ntmps167 Tryz.ntmps168 Tryz.ntmps169 Tryz.ntmps170 Tryz.ntmps171 Tryz.ntmps172 Tryz.ntmps173 Tryz.ntmps174 Tryz.ntmps175 Tryz.ntmps176 Tryz.ntmps177 Tryz.ntmps178 Tryz.ntmps179 Tryz.ntmps180 Tryz.ntmps181 Tryz.ntmps182 Tryz.ntmps183 Tryz.ntmps184 Tryz.ntmps185 Tryz.ntmps186 Tryz.ntmps187 Tryz.ntmps188 Tryz.ntmps189 Tryz.ntmps190 Tryz.ntmps191 Tryz.ntmps192 Tryz.ntmps193 Tryz.ntmps194 Tryz.ntmps195 Tryz.ntmps196 Tryz.ntmps197 Tryz.ntmps198 Tryz.ntmps199 Tryz.ntmps200 Tryz.ntmps201 Tryz.ntmps202 Tryz.ntmps203 Tryz.ntmps204 Tryz.ntmps205 Tryz.ntmps206 Tryz.ntmps207 Tryz.ntmps208 Tryz.ntmps209 Tryz.ntmps210 Tryz.ntmps211 Tryz.ntmps212 Tryz.ntmps213 Tryz.ntmps214 Tryz.ntmps215 Tryz.ntmps216 Tryz.ntmps217 Tryz.ntmps218 Tryz.ntmps219 Tryz.ntmps220 Tryz.ntmps221 Tryz.ntmps222 Tryz.ntmps223 Tryz.ntmps224 Tryz.ntmps225 Tryz.ntmps226 Tryz.ntmps227 Tryz.ntmps228 Tryz.ntmps229 Tryz.ntmps230 Tryz.ntmps231 Tryz.ntmps232 Tryz.ntmps233 Tryz.ntmps234 Tryz.ntmps235 Tryz.ntmps236 Tryz.ntmps237 Tryz.ntmps238 Tryz.ntmps239 Tryz.ntmps240 Tryz.ntmps241 Tryz.ntmps242 Tryz.ntmps243 Tryz.ntmps244 Tryz.ntmps245 Tryz.ntmps246 Tryz.ntmps247 Tryz.ntmps248 Tryz.ntmps249 Tryz.ntmps250 Tryz.ntmps251 Tryz.ntmps252 Tryz.ntmps253 Tryz.ntmps254 Tryz.ntmps255 Tryz.ntmps256 Tryz.ntmps257 Tryz.ntmps258 Tryz.ntmps259 Tryz.ntmps260 Tryz.ntmps261 Tryz.ntmps262 Tryz.ntmps263 Tryz.ntmps264 Tryz.ntmps265 Tryz.ntmps266 Tryz.ntmps267 Tryz.ntmps268 Tryz.ntmps269 Tryz.ntmps270 Tryz.ntmps271 Tryz.ntmps272 Tryz.ntmps273 Tryz.ntmps274 Tryz.ntmps275 Tryz.ntmps276 Tryz.ntmps277 Tryz.ntmps278 Tryz.ntmps279 Tryz.ntmps280 Tryz.ntmps281 Tryz.ntmps282 Tryz.ntmps283 Tryz.ntmps284 Tryz.ntmps285 Tryz.ntmps286 Tryz.ntmps287 Tryz.ntmps288 Tryz.ntmps289 Tryz.ntmps290 Tryz.ntmps291 Tryz.ntmps292
end Go.Proofs.YtabmhfmglhjmjaaGreatDoor
set_option linter.unusedSimpArgs false
set_option linter.unusedVariables false
set_option linter.unusedSectionVars false
namespace Go.Proofs.YtabmhfmglhjmjaaGreatDoor
open Go.Ab
attribute [local instance] drS
def Len (n : Nat) : Prop := n ≤ 1099511627776
theorem len_lit {n : Nat} (h : Nat.ble n 1099511627776 = true) : Len n := Nat.le_of_ble_eq_true h
def within (n lo hi : Int) : Bool := decide (lo ≤ n) && decide (n ≤ hi)
def isSample (n : Int) : Bool := within n (-32767) 32767
def areSamples (xs : List Int) : Bool := xs.all isSample
def signalErr (xs : List Int) : Int := bif decide (200 < xs.length) then 8 else bif areSamples xs then 0 else 2
def sumTo (f : Nat → Int) : Nat → Int
  | 0 => 0
  | n + 1 => sumTo f n + f n
theorem gi_ext {xs ys : List Int} (h : xs.length = ys.length) (h2 : ∀ j : Nat, j < xs.length → gi xs j = gi ys j) : xs = ys := by
  refine List.ext_getElem h fun i h1 h3 => ?_
  have := h2 i h1
  simpa [gi, h1, h3] using this
theorem within_iff {n lo hi : Int} : within n lo hi = true ↔ lo ≤ n ∧ n ≤ hi := by simp [within]
theorem within_false {n lo hi : Int} : within n lo hi = false ↔ n < lo ∨ hi < n := by
  unfold within
  by_cases h1 : lo ≤ n <;> by_cases h2 : n ≤ hi <;> simp [h1, h2] <;> omega
theorem sample_gi {xs : List Int} (h : areSamples xs = true) (i : Int) : -32767 ≤ gi xs i ∧ gi xs i ≤ 32767 := by
  unfold gi
  rw [List.getD_eq_getElem?_getD]
  cases e : xs[i.toNat]? with
  | none => simp
  | some x =>
    have := List.all_eq_true.1 h x (List.mem_of_getElem? e)
    exact within_iff.1 this
theorem sumTo_bound {f : Nat → Int} {n : Nat} {c : Int} (h : ∀ i, i < n → 0 ≤ f i ∧ f i ≤ c) : 0 ≤ sumTo f n ∧ sumTo f n ≤ n * c := by
  induction n with
  | zero => simp [sumTo]
  | succ n ih =>
    have h1 := ih fun i hi => h i (by omega)
    have h2 := h n (by omega)
    simp only [sumTo]
    rw [show (((n + 1 : Nat) : Int)) * c = n * c + c by rw [Int.natCast_succ, Int.add_mul, Int.one_mul]]
    omega
theorem iv_eq {a b : Int} (h : a = b) : AV.v (.int .i64 a) = iv b := by rw [h]
theorem bv_eq {a b : Bool} (h : a = b) : AV.v (.bool a) = .v (.bool b) := by rw [h]
theorem tdiv_bound {n b c : Int} (hb : 0 < b) (h : -c ≤ n ∧ n ≤ c) : -c ≤ n.tdiv b ∧ n.tdiv b ≤ c := by
  have h1 : (n.tdiv b).natAbs ≤ n.natAbs := by rw [Int.natAbs_tdiv]; exact Nat.div_le_self _ _
  omega
def unlessE (ok : Bool) (e : Int) : Int := bif ok then 0 else e
def firstE : List Int → Int
  | [] => 0
  | e :: l => bif e != 0 then e else firstE l
theorem firstE_drop {es : List Int} {i : Nat} (hi : i < es.length) : firstE (es.drop i) = bif gi es i != 0 then gi es i else firstE (es.drop (i + 1)) := by
  rw [List.drop_eq_getElem_cons hi, firstE]
  simp [gi, hi]
def idxF (p : Int → Bool) (xs : List Int) : Int :=
  match xs.findIdx? p with
  | some i => i
  | none => -1
theorem idxF_at {p : Int → Bool} {xs : List Int} {i : Nat} (hi : i < xs.length) (h : p (gi xs i) = true) (hb : ∀ j : Nat, j < i → p (gi xs j) = false) : idxF p xs = i := by
  unfold idxF
  have : xs.findIdx? p = some i := by
    rw [List.findIdx?_eq_some_iff_getElem]
    refine ⟨hi, by simpa [gi, hi] using h, fun j hj => ?_⟩
    have h1 := hb j hj
    have h2 : j < xs.length := by omega
    have : gi xs j = xs[j] := by simp [gi, h2]
    rw [this] at h1
    simp [h1]
  rw [this]
theorem idxF_none {p : Int → Bool} {xs : List Int} (h : ∀ j : Nat, j < xs.length → p (gi xs j) = false) : idxF p xs = -1 := by
  unfold idxF
  have : xs.findIdx? p = none := by
    rw [List.findIdx?_eq_none_iff]
    intro x hx
    obtain ⟨j, hj, rfl⟩ := List.getElem_of_mem hx
    have := h j hj
    simpa [gi, hj] using this
  rw [this]
theorem idxF_any (p : Int → Bool) (xs : List Int) : decide (0 ≤ idxF p xs) = xs.any p := by
  unfold idxF
  cases e : xs.findIdx? p with
  | none =>
    rw [List.findIdx?_eq_none_iff] at e
    have : xs.any p = false := by
      rw [Bool.eq_false_iff]
      intro h
      obtain ⟨x, hx, hp⟩ := List.any_eq_true.1 h
      rw [e x hx] at hp; cases hp
    rw [this]; rfl
  | some i =>
    rw [List.findIdx?_eq_some_iff_getElem] at e
    obtain ⟨h1, h2, _⟩ := e
    have : xs.any p = true := List.any_eq_true.2 ⟨_, List.getElem_mem h1, h2⟩
    rw [this]; simp
theorem any_not_all (p : Int → Bool) (xs : List Int) : xs.any (fun x => !p x) = !xs.all p := by
  induction xs with
  | nil => rfl
  | cons x l ih => simp [ih]
theorem signalErr_eq (xs : List Int) : signalErr xs = firstE [unlessE (decide ((xs.length : Int) ≤ 200)) 8, unlessE (areSamples xs) 2] := by
  unfold signalErr
  by_cases h : xs.length ≤ 200
  · rw [decide_eq_false (by omega), decide_eq_true (by omega)]; cases areSamples xs <;> rfl
  · rw [decide_eq_true (by omega), decide_eq_false (by omega)]; rfl
theorem signalErr_zero {xs : List Int} (h : signalErr xs = 0) : xs.length ≤ 200 ∧ areSamples xs = true := by
  unfold signalErr at h
  by_cases h1 : 200 < xs.length
  · rw [decide_eq_true h1] at h; cases h
  · rw [decide_eq_false h1] at h
    cases h2 : areSamples xs
    · rw [h2] at h; cases h
    · exact ⟨by omega, rfl⟩
end Go.Proofs.YtabmhfmglhjmjaaGreatDoor
set_option linter.unusedSimpArgs false
set_option linter.unusedVariables false
namespace Go.Proofs.YtabmhfmglhjmjaaGreatDoor
open Go.Ab
def swp (ys : List Int) (j : Nat) : List Int := (ys.set ((j : Int)).toNat (gi ys ((j : Int) - 1))).set ((j : Int) - 1).toNat (gi ys j)
theorem gi_nat (ys : List Int) (p : Nat) : gi ys (p : Int) = ys.getD p 0 := by simp [gi]
theorem swp_length (ys : List Int) (j : Nat) : (swp ys j).length = ys.length := by simp [swp]
theorem gi_swp {ys : List Int} {j : Nat} (h1 : 1 ≤ j) (h2 : j < ys.length) (p : Nat) : gi (swp ys j) p = if p = j - 1 then gi ys j else if p = j then gi ys ((j : Int) - 1) else gi ys p := by
  have e1 : ((j : Int)).toNat = j := by omega
  have e2 : ((j : Int) - 1).toNat = j - 1 := by omega
  unfold swp
  rw [gi_nat, e1, e2, List.getD_eq_getElem?_getD, List.getElem?_set]
  by_cases hp : p = j - 1
  · have : j - 1 < ys.length := by omega
    subst hp
    simp [this]
  · rw [if_neg (Ne.symm hp), if_neg hp, List.getElem?_set]
    by_cases hp2 : p = j
    · subst hp2; simp [h2]
    · rw [if_neg (Ne.symm hp2), if_neg hp2, gi_nat, List.getD_eq_getElem?_getD]
theorem swp_perm {ys : List Int} {j : Nat} (h1 : 1 ≤ j) (h2 : j < ys.length) : (swp ys j).Perm ys := by
  have hsp : ys = ys.take (j - 1) ++ gi ys ((j : Int) - 1) :: gi ys j :: ys.drop (j + 1) := by
    have a : ys.drop (j - 1) = gi ys ((j : Int) - 1) :: ys.drop j := by
      rw [List.drop_eq_getElem_cons (by omega), show j - 1 + 1 = j by omega]
      congr 1
      rw [show ((j : Int) - 1) = ((j - 1 : Nat) : Int) by omega, gi_nat, List.getD_eq_getElem?_getD, List.getElem?_eq_getElem (by omega)]; rfl
    have b : ys.drop j = gi ys j :: ys.drop (j + 1) := by
      rw [List.drop_eq_getElem_cons h2]
      congr 1
      rw [gi_nat, List.getD_eq_getElem?_getD, List.getElem?_eq_getElem h2]; rfl
    rw [← b, ← a, List.take_append_drop]
  have hsw : swp ys j = ys.take (j - 1) ++ gi ys j :: gi ys ((j : Int) - 1) :: ys.drop (j + 1) := by
    refine gi_ext ?_ fun p hp => ?_
    · rw [swp_length]; simp; omega
    · rw [gi_swp h1 h2]
      have hl : (ys.take (j - 1)).length = j - 1 := by simp; omega
      have hr : ∀ (l : List Int), gi l (p : Int) = (l[p]?).getD 0 := fun l => by rw [gi_nat, List.getD_eq_getElem?_getD]
      rw [hr (_ ++ _), List.getElem?_append, hl]
      by_cases c1 : p < j - 1
      · rw [if_pos c1, if_neg (by omega), if_neg (by omega), List.getElem?_take_of_lt c1, hr]
      · rw [if_neg c1]
        by_cases c2 : p = j - 1
        · rw [if_pos c2, c2]; simp
        · rw [if_neg c2]
          by_cases c3 : p = j
          · rw [if_pos c3, c3, show j - (j - 1) = 0 + 1 by omega]; simp
          · rw [if_neg c3, show p - (j - 1) = (p - j - 1) + 1 + 1 by omega, List.getElem?_cons_succ, List.getElem?_cons_succ, List.getElem?_drop, hr, show j + 1 + (p - j - 1) = p by omega]
  rw [hsw]
  conv => rhs; rw [hsp]
  exact List.Perm.append_left _ (List.Perm.swap _ _ _)
def SortTo (ys : List Int) (i : Nat) : Prop := ∀ p q : Nat, p < q → q < i → gi ys p ≤ gi ys q
def SortBut (ys : List Int) (i j : Nat) : Prop := ∀ p q : Nat, p < q → q ≤ i → q ≠ j → gi ys p ≤ gi ys q
theorem sortBut_start {ys : List Int} {i : Nat} (h : SortTo ys i) : SortBut ys i i := fun p q hp hq hn => h p q hp (by omega)
theorem sortBut_end {ys : List Int} {i j : Nat} (h : SortBut ys i j) (hj : j = 0 ∨ gi ys ((j : Int) - 1) ≤ gi ys j) : SortTo ys (i + 1) := by
  intro p q hp hq
  by_cases e : q = j
  · subst e
    rcases hj with hj | hj
    · omega
    · by_cases e2 : p = q - 1
      · subst e2; rw [show (((q - 1 : Nat)) : Int) = (q : Int) - 1 by omega]; exact hj
      · have := h p (q - 1) (by omega) (by omega) (by omega)
        rw [show (((q - 1 : Nat)) : Int) = (q : Int) - 1 by omega] at this
        omega
  · exact h p q hp (by omega) e
theorem sortBut_step {ys : List Int} {i j : Nat} (h1 : 1 ≤ j) (h2 : j ≤ i) (h3 : i < ys.length) (h : SortBut ys i j) (hlt : gi ys j < gi ys ((j : Int) - 1)) : SortBut (swp ys j) i (j - 1) := by
  intro p q hp hq hn
  have hj2 : j < ys.length := by omega
  rw [gi_swp h1 hj2, gi_swp h1 hj2]
  have key : ∀ a b : Nat, a < b → b ≤ i → b ≠ j → gi ys a ≤ gi ys b := h
  have ej : ((j - 1 : Nat) : Int) = (j : Int) - 1 := by omega
  rw [if_neg hn]
  by_cases q1 : q = j
  · rw [if_pos q1]
    by_cases p1 : p = j - 1
    · rw [if_pos p1]; omega
    · rw [if_neg p1, if_neg (by omega)]
      have := key p (j - 1) (by omega) (by omega) (by omega)
      rwa [ej] at this
  · rw [if_neg q1]
    by_cases p1 : p = j - 1
    · rw [if_pos p1]; exact key j q (by omega) hq q1
    · rw [if_neg p1]
      by_cases p2 : p = j
      · rw [if_pos p2]
        have := key (j - 1) q (by omega) hq q1
        rwa [ej] at this
      · rw [if_neg p2]; exact key p q hp hq q1
end Go.Proofs.YtabmhfmglhjmjaaGreatDoor
set_option linter.unusedSimpArgs false
set_option linter.unusedVariables false
namespace Go.Proofs.YtabmhfmglhjmjaaGreatDoor
open Go.Ab
def sorted (xs : List Int) : List Int := xs.mergeSort (fun a b => decide (a ≤ b))
theorem sorted_perm (xs : List Int) : (sorted xs).Perm xs := List.mergeSort_perm _ _
theorem sorted_length (xs : List Int) : (sorted xs).length = xs.length := (sorted_perm xs).length_eq
theorem sorted_pw (xs : List Int) : (sorted xs).Pairwise (fun a b => a ≤ b) := by
  have := List.pairwise_mergeSort (le := fun a b : Int => decide (a ≤ b)) (by intro a b c; simp; omega) (by intro a b; simp; omega) xs
  exact this.imp (by intro a b h; simpa using h)
theorem gi_some {ys : List Int} {p : Nat} (h : p < ys.length) : gi ys p = ys[p] := by
  rw [gi_nat, List.getD_eq_getElem?_getD, List.getElem?_eq_getElem h]; rfl
theorem sorted_eq {xs ys : List Int} (hp : ys.Perm xs) (hs : SortTo ys ys.length) : ys = sorted xs := by
  refine List.Perm.eq_of_pairwise (le := fun a b => a ≤ b) (fun a b _ _ h1 h2 => by omega) ?_ (sorted_pw xs) (hp.trans (sorted_perm xs).symm)
  rw [List.pairwise_iff_getElem]
  intro i j hi hj hij
  have := hs i j hij hj
  rwa [gi_some hi, gi_some hj] at this
def med (xs : List Int) : Int := gi (sorted xs) (((xs.length : Int) - 1) / 2)
def cnt (xs : List Int) (v : Int) : Nat := xs.countP fun x => decide (x ≤ v)
theorem sorted_mem {xs : List Int} (h : areSamples xs = true) : areSamples (sorted xs) = true := by
  unfold areSamples at *
  rw [List.all_eq_true] at *
  exact fun x hx => h x ((sorted_perm xs).mem_iff.1 hx)
end Go.Proofs.YtabmhfmglhjmjaaGreatDoor
set_option linter.unusedVariables false
set_option linter.unusedSimpArgs false
namespace Go.Proofs.YtabmhfmglhjmjaaGreatDoor
open Go.Ab
structure Run where
  lo : Int
  hi : Int
  pk : Int
  dv : Int
  deriving DecidableEq
def Run.cells (r : Run) : List Int := [r.lo, r.hi, r.pk, r.dv]
instance : Inhabited Run := ⟨⟨0, 0, 0, 0⟩⟩
def RunOk (n : Nat) (c : Int) (r : Run) : Prop := 0 ≤ r.lo ∧ r.lo ≤ r.hi ∧ r.hi < n ∧ r.lo ≤ r.pk ∧ r.pk ≤ r.hi ∧ 0 ≤ r.dv ∧ r.dv ≤ c
theorem RunOk.mono {n m : Nat} {c : Int} {r : Run} (h : RunOk n c r) (hm : n ≤ m) : RunOk m c r := by unfold RunOk at *; omega
end Go.Proofs.YtabmhfmglhjmjaaGreatDoor
set_option linter.unusedSimpArgs false
set_option linter.unusedVariables false
namespace Go.Proofs.YtabmhfmglhjmjaaGreatDoor
open Go.Ab
end Go.Proofs.YtabmhfmglhjmjaaGreatDoor

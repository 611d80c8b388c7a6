/- Parts of the proof, put together by a program. -/
import Derived.Test.YtpdecefdhkhlnaaGreatDoorProg
import Derived.KernelRfl
import Derived.Test.YtpdecefdhkhlnaaGreatDoorQad
set_option linter.unusedSimpArgs false
set_option maxRecDepth 100000
set_option linter.unusedSectionVars false
namespace Go.Proofs.YtpdecefdhkhlnaaGreatDoor
open Go.Ab Go.RowKit
variable [Dr]
def ti2 : TI := { size := 1, bytes := 8, agg := false, zero := .v (Go.Value.int Go.IntKind.i64 0), kind := .int .i64 }
def ti3 : TI := { size := 1, bytes := 8, agg := false, zero := .v (Go.Value.int Go.IntKind.i64 0), kind := .int .i64 }
def ti4 : TI := { size := 1, bytes := 1, agg := false, zero := .v (Go.Value.bool false), kind := .bool }
def ti5 : TI := { size := 1, bytes := 1, agg := false, zero := .v (Go.Value.int Go.IntKind.u8 0), kind := .int .u8 }
def ti9 : TI := { size := 1, bytes := 16, agg := false, zero := .v (Go.Value.string { data := #[] }), kind := .string }
def ti21 : TI := { size := 1, bytes := 4, agg := false, zero := .v (Go.Value.int Go.IntKind.i32 0), kind := .int .i32 }
def ti22 : TI := { size := 1, bytes := 24, agg := false, zero := .v (Go.Value.slice none 0 0), kind := .slice 3 }
def ti26 : TI := { size := 1, bytes := 8, agg := false, zero := .v (Go.Value.int Go.IntKind.i64 0), kind := .int .i64 }
def ti31 : TI := { size := 2, bytes := 16, agg := true, zero := .ag [.v (Go.Value.int Go.IntKind.i64 0), .v (Go.Value.int Go.IntKind.i64 0)], kind := .struct [(0, 3), (1, 3)] }
def ti35 : TI := { size := 3, bytes := 40, agg := true, zero := .ag [.v (Go.Value.int Go.IntKind.i64 0), .v (Go.Value.int Go.IntKind.i64 0), .v (Go.Value.slice none 0 0)], kind := .struct [(0, 3), (1, 3), (2, 22)] }
def ti49 : TI := { size := 6, bytes := 48, agg := true, zero := .ag [.v (Go.Value.int Go.IntKind.i64 0), .v (Go.Value.int Go.IntKind.i64 0), .v (Go.Value.int Go.IntKind.i64 0), .v (Go.Value.int Go.IntKind.i64 0), .v (Go.Value.int Go.IntKind.i64 0), .v (Go.Value.int Go.IntKind.i64 0)], kind := .struct [(0, 3), (1, 3), (2, 3), (3, 3), (4, 3), (5, 3)] }
def ti59 : TI := { size := 1, bytes := 24, agg := false, zero := .v (Go.Value.slice none 0 0), kind := .slice 92 }
def ti63 : TI := { size := 1, bytes := 24, agg := false, zero := .v (Go.Value.slice none 0 0), kind := .slice 69 }
def ti66 : TI := { size := 1, bytes := 24, agg := false, zero := .v (Go.Value.slice none 0 0), kind := .slice 31 }
def ti69 : TI := { size := 3, bytes := 40, agg := true, zero := .ag [.v (Go.Value.int Go.IntKind.i64 0), .v (Go.Value.int Go.IntKind.i64 0), .v (Go.Value.slice none 0 0)], kind := .struct [(0, 3), (1, 3), (2, 22)] }
def ti71 : TI := { size := 1, bytes := 24, agg := false, zero := .v (Go.Value.slice none 0 0), kind := .slice 3 }
def ti74 : TI := { size := 1, bytes := 8, agg := false, zero := .v (Go.Value.nilFunc), kind := .other }
def ti78 : TI := { size := 1, bytes := 24, agg := false, zero := .v (Go.Value.slice none 0 0), kind := .slice 22 }
def ti86 : TI := { size := 1, bytes := 24, agg := false, zero := .v (Go.Value.slice none 0 0), kind := .slice 9 }
def ti92 : TI := { size := 4, bytes := 32, agg := true, zero := .ag [.v (Go.Value.int Go.IntKind.i64 0), .v (Go.Value.int Go.IntKind.i64 0), .v (Go.Value.int Go.IntKind.i64 0), .v (Go.Value.int Go.IntKind.i64 0)], kind := .struct [(0, 31), (2, 3), (3, 3)] }
def ti93 : TI := { size := 1, bytes := 24, agg := false, zero := .v (Go.Value.slice none 0 0), kind := .slice 96 }
def ti95 : TI := { size := 1, bytes := 8, agg := false, zero := .v (Go.Value.pointer none), kind := .pointer 49 }
def ti96 : TI := { size := 1, bytes := 8, agg := false, zero := .v (Go.Value.pointer none), kind := .pointer 3 }
def ti105 : TI := { size := 1, bytes := 24, agg := false, zero := .v (Go.Value.slice none 0 0), kind := .slice 26 }
def ti110 : TI := { size := 1, bytes := 16, agg := false, zero := .v (Go.Value.nilIface), kind := .iface }
def ti115 : TI := { size := 1, bytes := 8, agg := false, zero := .v (Go.Value.pointer none), kind := .pointer 118 }
def ti116 : TI := { size := 1, bytes := 24, agg := false, zero := .v (Go.Value.slice none 0 0), kind := .slice 5 }
def ti118 : TI := { size := 2, bytes := 32, agg := true, zero := .ag [.v (Go.Value.pointer none), .v (Go.Value.slice none 0 0)], kind := .struct [(0, 115), (1, 116)] }
def ti139 : TI := { size := 1, bytes := 8, agg := false, zero := .v (Go.Value.pointer none), kind := .pointer 5 }
def ti145 : TI := { size := 1, bytes := 8, agg := false, zero := .v (Go.Value.pointer none), kind := .pointer 92 }
def ti149 : TI := { size := 3, bytes := 24, agg := true, zero := .ag [.v (Go.Value.int Go.IntKind.i64 0), .v (Go.Value.int Go.IntKind.i64 0), .v (Go.Value.int Go.IntKind.i64 0)], kind := .array 3 3 }
def ti150 : TI := { size := 1, bytes := 8, agg := false, zero := .v (Go.Value.int Go.IntKind.i64 0), kind := .int .i64 }
def ti153 : TI := { size := 1, bytes := 8, agg := false, zero := .v (Go.Value.pointer none), kind := .pointer 181 }
def ti157 : TI := { size := 24, bytes := 24, agg := true, zero := .ag [.v (Go.Value.int Go.IntKind.u8 0), .v (Go.Value.int Go.IntKind.u8 0), .v (Go.Value.int Go.IntKind.u8 0), .v (Go.Value.int Go.IntKind.u8 0), .v (Go.Value.int Go.IntKind.u8 0), .v (Go.Value.int Go.IntKind.u8 0), .v (Go.Value.int Go.IntKind.u8 0), .v (Go.Value.int Go.IntKind.u8 0), .v (Go.Value.int Go.IntKind.u8 0), .v (Go.Value.int Go.IntKind.u8 0), .v (Go.Value.int Go.IntKind.u8 0), .v (Go.Value.int Go.IntKind.u8 0), .v (Go.Value.int Go.IntKind.u8 0), .v (Go.Value.int Go.IntKind.u8 0), .v (Go.Value.int Go.IntKind.u8 0), .v (Go.Value.int Go.IntKind.u8 0), .v (Go.Value.int Go.IntKind.u8 0), .v (Go.Value.int Go.IntKind.u8 0), .v (Go.Value.int Go.IntKind.u8 0), .v (Go.Value.int Go.IntKind.u8 0), .v (Go.Value.int Go.IntKind.u8 0), .v (Go.Value.int Go.IntKind.u8 0), .v (Go.Value.int Go.IntKind.u8 0), .v (Go.Value.int Go.IntKind.u8 0)], kind := .array 24 5 }
def ti158 : TI := { size := 1, bytes := 8, agg := false, zero := .v (Go.Value.int Go.IntKind.u64 0), kind := .int .u64 }
def ti173 : TI := { size := 1, bytes := 8, agg := false, zero := .v (Go.Value.int Go.IntKind.u64 0), kind := .int .u64 }
def ti175 : TI := { size := 2, bytes := 2, agg := true, zero := .ag [.v (Go.Value.int Go.IntKind.u8 0), .v (Go.Value.int Go.IntKind.u8 0)], kind := .struct [(0, 5), (1, 5)] }
def ti176 : TI := { size := 32, bytes := 32, agg := true, zero := .ag [.v (Go.Value.int Go.IntKind.u8 0), .v (Go.Value.int Go.IntKind.u8 0), .v (Go.Value.int Go.IntKind.u8 0), .v (Go.Value.int Go.IntKind.u8 0), .v (Go.Value.int Go.IntKind.u8 0), .v (Go.Value.int Go.IntKind.u8 0), .v (Go.Value.int Go.IntKind.u8 0), .v (Go.Value.int Go.IntKind.u8 0), .v (Go.Value.int Go.IntKind.u8 0), .v (Go.Value.int Go.IntKind.u8 0), .v (Go.Value.int Go.IntKind.u8 0), .v (Go.Value.int Go.IntKind.u8 0), .v (Go.Value.int Go.IntKind.u8 0), .v (Go.Value.int Go.IntKind.u8 0), .v (Go.Value.int Go.IntKind.u8 0), .v (Go.Value.int Go.IntKind.u8 0), .v (Go.Value.int Go.IntKind.u8 0), .v (Go.Value.int Go.IntKind.u8 0), .v (Go.Value.int Go.IntKind.u8 0), .v (Go.Value.int Go.IntKind.u8 0), .v (Go.Value.int Go.IntKind.u8 0), .v (Go.Value.int Go.IntKind.u8 0), .v (Go.Value.int Go.IntKind.u8 0), .v (Go.Value.int Go.IntKind.u8 0), .v (Go.Value.int Go.IntKind.u8 0), .v (Go.Value.int Go.IntKind.u8 0), .v (Go.Value.int Go.IntKind.u8 0), .v (Go.Value.int Go.IntKind.u8 0), .v (Go.Value.int Go.IntKind.u8 0), .v (Go.Value.int Go.IntKind.u8 0), .v (Go.Value.int Go.IntKind.u8 0), .v (Go.Value.int Go.IntKind.u8 0)], kind := .array 16 175 }
def ti181 : TI := { size := 3, bytes := 48, agg := true, zero := .ag [.v (Go.Value.string { data := #[] }), .v (Go.Value.string { data := #[] }), .v (Go.Value.nilIface)], kind := .struct [(0, 9), (1, 9), (2, 110)] }
def ti184 : TI := { size := 20, bytes := 160, agg := true, zero := .ag [.v (Go.Value.int Go.IntKind.u64 0), .v (Go.Value.int Go.IntKind.u64 0), .v (Go.Value.int Go.IntKind.u64 0), .v (Go.Value.int Go.IntKind.u64 0), .v (Go.Value.int Go.IntKind.u64 0), .v (Go.Value.int Go.IntKind.u64 0), .v (Go.Value.int Go.IntKind.u64 0), .v (Go.Value.int Go.IntKind.u64 0), .v (Go.Value.int Go.IntKind.u64 0), .v (Go.Value.int Go.IntKind.u64 0), .v (Go.Value.int Go.IntKind.u64 0), .v (Go.Value.int Go.IntKind.u64 0), .v (Go.Value.int Go.IntKind.u64 0), .v (Go.Value.int Go.IntKind.u64 0), .v (Go.Value.int Go.IntKind.u64 0), .v (Go.Value.int Go.IntKind.u64 0), .v (Go.Value.int Go.IntKind.u64 0), .v (Go.Value.int Go.IntKind.u64 0), .v (Go.Value.int Go.IntKind.u64 0), .v (Go.Value.int Go.IntKind.u64 0)], kind := .array 20 158 }
def ti185 : TI := { size := 1, bytes := 4, agg := false, zero := .v (Go.Value.int Go.IntKind.u32 0), kind := .int .u32 }
def ti190 : TI := { size := 1, bytes := 8, agg := true, zero := .ag [.v (Go.Value.int Go.IntKind.i64 0)], kind := .struct [(0, 3)] }
def ti192 : TI := { size := 0, bytes := 0, agg := true, zero := .ag [], kind := .struct [] }
def ti196 : TI := { size := 1, bytes := 8, agg := false, zero := .v (Go.Value.pointer none), kind := .pointer 198 }
def ti198 : TI := { size := 1, bytes := 16, agg := true, zero := .ag [.v (Go.Value.string { data := #[] })], kind := .struct [(0, 9)] }
def ti200 : TI := { size := 32, bytes := 32, agg := true, zero := .ag [.v (Go.Value.int Go.IntKind.u8 0), .v (Go.Value.int Go.IntKind.u8 0), .v (Go.Value.int Go.IntKind.u8 0), .v (Go.Value.int Go.IntKind.u8 0), .v (Go.Value.int Go.IntKind.u8 0), .v (Go.Value.int Go.IntKind.u8 0), .v (Go.Value.int Go.IntKind.u8 0), .v (Go.Value.int Go.IntKind.u8 0), .v (Go.Value.int Go.IntKind.u8 0), .v (Go.Value.int Go.IntKind.u8 0), .v (Go.Value.int Go.IntKind.u8 0), .v (Go.Value.int Go.IntKind.u8 0), .v (Go.Value.int Go.IntKind.u8 0), .v (Go.Value.int Go.IntKind.u8 0), .v (Go.Value.int Go.IntKind.u8 0), .v (Go.Value.int Go.IntKind.u8 0), .v (Go.Value.int Go.IntKind.u8 0), .v (Go.Value.int Go.IntKind.u8 0), .v (Go.Value.int Go.IntKind.u8 0), .v (Go.Value.int Go.IntKind.u8 0), .v (Go.Value.int Go.IntKind.u8 0), .v (Go.Value.int Go.IntKind.u8 0), .v (Go.Value.int Go.IntKind.u8 0), .v (Go.Value.int Go.IntKind.u8 0), .v (Go.Value.int Go.IntKind.u8 0), .v (Go.Value.int Go.IntKind.u8 0), .v (Go.Value.int Go.IntKind.u8 0), .v (Go.Value.int Go.IntKind.u8 0), .v (Go.Value.int Go.IntKind.u8 0), .v (Go.Value.int Go.IntKind.u8 0), .v (Go.Value.int Go.IntKind.u8 0), .v (Go.Value.int Go.IntKind.u8 0)], kind := .array 32 5 }
def ti201 : TI := { size := 64, bytes := 64, agg := true, zero := .ag [.v (Go.Value.int Go.IntKind.u8 0), .v (Go.Value.int Go.IntKind.u8 0), .v (Go.Value.int Go.IntKind.u8 0), .v (Go.Value.int Go.IntKind.u8 0), .v (Go.Value.int Go.IntKind.u8 0), .v (Go.Value.int Go.IntKind.u8 0), .v (Go.Value.int Go.IntKind.u8 0), .v (Go.Value.int Go.IntKind.u8 0), .v (Go.Value.int Go.IntKind.u8 0), .v (Go.Value.int Go.IntKind.u8 0), .v (Go.Value.int Go.IntKind.u8 0), .v (Go.Value.int Go.IntKind.u8 0), .v (Go.Value.int Go.IntKind.u8 0), .v (Go.Value.int Go.IntKind.u8 0), .v (Go.Value.int Go.IntKind.u8 0), .v (Go.Value.int Go.IntKind.u8 0), .v (Go.Value.int Go.IntKind.u8 0), .v (Go.Value.int Go.IntKind.u8 0), .v (Go.Value.int Go.IntKind.u8 0), .v (Go.Value.int Go.IntKind.u8 0), .v (Go.Value.int Go.IntKind.u8 0), .v (Go.Value.int Go.IntKind.u8 0), .v (Go.Value.int Go.IntKind.u8 0), .v (Go.Value.int Go.IntKind.u8 0), .v (Go.Value.int Go.IntKind.u8 0), .v (Go.Value.int Go.IntKind.u8 0), .v (Go.Value.int Go.IntKind.u8 0), .v (Go.Value.int Go.IntKind.u8 0), .v (Go.Value.int Go.IntKind.u8 0), .v (Go.Value.int Go.IntKind.u8 0), .v (Go.Value.int Go.IntKind.u8 0), .v (Go.Value.int Go.IntKind.u8 0), .v (Go.Value.int Go.IntKind.u8 0), .v (Go.Value.int Go.IntKind.u8 0), .v (Go.Value.int Go.IntKind.u8 0), .v (Go.Value.int Go.IntKind.u8 0), .v (Go.Value.int Go.IntKind.u8 0), .v (Go.Value.int Go.IntKind.u8 0), .v (Go.Value.int Go.IntKind.u8 0), .v (Go.Value.int Go.IntKind.u8 0), .v (Go.Value.int Go.IntKind.u8 0), .v (Go.Value.int Go.IntKind.u8 0), .v (Go.Value.int Go.IntKind.u8 0), .v (Go.Value.int Go.IntKind.u8 0), .v (Go.Value.int Go.IntKind.u8 0), .v (Go.Value.int Go.IntKind.u8 0), .v (Go.Value.int Go.IntKind.u8 0), .v (Go.Value.int Go.IntKind.u8 0), .v (Go.Value.int Go.IntKind.u8 0), .v (Go.Value.int Go.IntKind.u8 0), .v (Go.Value.int Go.IntKind.u8 0), .v (Go.Value.int Go.IntKind.u8 0), .v (Go.Value.int Go.IntKind.u8 0), .v (Go.Value.int Go.IntKind.u8 0), .v (Go.Value.int Go.IntKind.u8 0), .v (Go.Value.int Go.IntKind.u8 0), .v (Go.Value.int Go.IntKind.u8 0), .v (Go.Value.int Go.IntKind.u8 0), .v (Go.Value.int Go.IntKind.u8 0), .v (Go.Value.int Go.IntKind.u8 0), .v (Go.Value.int Go.IntKind.u8 0), .v (Go.Value.int Go.IntKind.u8 0), .v (Go.Value.int Go.IntKind.u8 0), .v (Go.Value.int Go.IntKind.u8 0)], kind := .array 64 5 }
def ti216 : TI := { size := 1, bytes := 8, agg := false, zero := .v (Go.Value.nilFunc), kind := .other }
def ti222 : TI := { size := 1, bytes := 8, agg := false, zero := .v (Go.Value.int Go.IntKind.i64 0), kind := .int .i64 }
def ti228 : TI := { size := 1, bytes := 8, agg := false, zero := .v (Go.Value.int Go.IntKind.u64 0), kind := .int .u64 }
def tyL : List (Nat × TI) := [(2, ti2), (3, ti3), (4, ti4), (5, ti5), (9, ti9), (21, ti21), (22, ti22), (26, ti26), (31, ti31), (35, ti35), (49, ti49), (59, ti59), (63, ti63), (66, ti66), (69, ti69), (71, ti71), (74, ti74), (78, ti78), (86, ti86), (92, ti92), (93, ti93), (95, ti95), (96, ti96), (105, ti105), (110, ti110), (115, ti115), (116, ti116), (118, ti118), (139, ti139), (145, ti145), (149, ti149), (150, ti150), (153, ti153), (157, ti157), (158, ti158), (173, ti173), (175, ti175), (176, ti176), (181, ti181), (184, ti184), (185, ti185), (190, ti190), (192, ti192), (196, ti196), (198, ti198), (200, ti200), (201, ti201), (216, ti216), (222, ti222), (228, ti228)]
def lkT : List (Nat × TI) → Nat → Option TI
  | [], _ => none
  | p :: l, t => bif p.1 == t then some p.2 else lkT l t
def tyTab : Tab := lkT tyL
theorem tab2 : tyTab 2 = some ti2 := rfl
theorem tab3 : tyTab 3 = some ti3 := rfl
theorem tab4 : tyTab 4 = some ti4 := rfl
theorem tab5 : tyTab 5 = some ti5 := rfl
theorem tab9 : tyTab 9 = some ti9 := rfl
theorem tab21 : tyTab 21 = some ti21 := rfl
theorem tab22 : tyTab 22 = some ti22 := rfl
theorem tab26 : tyTab 26 = some ti26 := rfl
theorem tab31 : tyTab 31 = some ti31 := rfl
theorem tab35 : tyTab 35 = some ti35 := rfl
theorem tab49 : tyTab 49 = some ti49 := rfl
theorem tab59 : tyTab 59 = some ti59 := rfl
theorem tab63 : tyTab 63 = some ti63 := rfl
theorem tab66 : tyTab 66 = some ti66 := rfl
theorem tab69 : tyTab 69 = some ti69 := rfl
theorem tab71 : tyTab 71 = some ti71 := rfl
theorem tab74 : tyTab 74 = some ti74 := rfl
theorem tab78 : tyTab 78 = some ti78 := rfl
theorem tab86 : tyTab 86 = some ti86 := rfl
theorem tab92 : tyTab 92 = some ti92 := rfl
theorem tab93 : tyTab 93 = some ti93 := rfl
theorem tab95 : tyTab 95 = some ti95 := rfl
theorem tab96 : tyTab 96 = some ti96 := rfl
theorem tab105 : tyTab 105 = some ti105 := rfl
theorem tab110 : tyTab 110 = some ti110 := rfl
theorem tab115 : tyTab 115 = some ti115 := rfl
theorem tab116 : tyTab 116 = some ti116 := rfl
theorem tab118 : tyTab 118 = some ti118 := rfl
theorem tab139 : tyTab 139 = some ti139 := rfl
theorem tab145 : tyTab 145 = some ti145 := rfl
theorem tab149 : tyTab 149 = some ti149 := rfl
theorem tab150 : tyTab 150 = some ti150 := rfl
theorem tab153 : tyTab 153 = some ti153 := rfl
theorem tab157 : tyTab 157 = some ti157 := rfl
theorem tab158 : tyTab 158 = some ti158 := rfl
theorem tab173 : tyTab 173 = some ti173 := rfl
theorem tab175 : tyTab 175 = some ti175 := rfl
theorem tab176 : tyTab 176 = some ti176 := rfl
theorem tab181 : tyTab 181 = some ti181 := rfl
theorem tab184 : tyTab 184 = some ti184 := rfl
theorem tab185 : tyTab 185 = some ti185 := rfl
theorem tab190 : tyTab 190 = some ti190 := rfl
theorem tab192 : tyTab 192 = some ti192 := rfl
theorem tab196 : tyTab 196 = some ti196 := rfl
theorem tab198 : tyTab 198 = some ti198 := rfl
theorem tab200 : tyTab 200 = some ti200 := rfl
theorem tab201 : tyTab 201 = some ti201 := rfl
theorem tab216 : tyTab 216 = some ti216 := rfl
theorem tab222 : tyTab 222 = some ti222 := rfl
theorem tab228 : tyTab 228 = some ti228 := rfl
theorem lkT_mem : ∀ {l : List (Nat × TI)} {t : Nat} {ti : TI}, lkT l t = some ti → (t, ti) ∈ l
  | p :: l, t, ti, h => by
    simp only [lkT] at h
    by_cases e : p.1 = t
    · subst e; simp at h; simp [← h]
    · rw [show (p.1 == t) = false by simpa using e, cond_false] at h
      exact List.mem_cons_of_mem _ (lkT_mem h)
theorem ok2 : TIok Tryz.prog 2 ti2 := ⟨⟨Tryz.t2, by kernel_rfl, rfl, rfl, (Go.Value.int Go.IntKind.i64 0), rfl, rfl, rfl⟩, ⟨_, Tryz.underlying2, by first | trivial | exact rfl | exact ⟨rfl, rfl⟩, rfl⟩⟩
theorem ok3 : TIok Tryz.prog 3 ti3 := ⟨⟨Tryz.t3, by kernel_rfl, rfl, rfl, (Go.Value.int Go.IntKind.i64 0), rfl, rfl, rfl⟩, ⟨_, Tryz.underlying3, by first | trivial | exact rfl | exact ⟨rfl, rfl⟩, rfl⟩⟩
theorem ok4 : TIok Tryz.prog 4 ti4 := ⟨⟨Tryz.t4, by kernel_rfl, rfl, rfl, (Go.Value.bool false), rfl, rfl, rfl⟩, ⟨_, Tryz.underlying4, by first | trivial | exact rfl | exact ⟨rfl, rfl⟩, rfl⟩⟩
theorem ok5 : TIok Tryz.prog 5 ti5 := ⟨⟨Tryz.t5, by kernel_rfl, rfl, rfl, (Go.Value.int Go.IntKind.u8 0), rfl, rfl, rfl⟩, ⟨_, Tryz.underlying5, by first | trivial | exact rfl | exact ⟨rfl, rfl⟩, rfl⟩⟩
theorem ok9 : TIok Tryz.prog 9 ti9 := ⟨⟨Tryz.t9, by kernel_rfl, rfl, rfl, (Go.Value.string { data := #[] }), rfl, rfl, rfl⟩, ⟨_, Tryz.underlying9, by first | trivial | exact rfl | exact ⟨rfl, rfl⟩, rfl⟩⟩
theorem ok21 : TIok Tryz.prog 21 ti21 := ⟨⟨Tryz.t21, by kernel_rfl, rfl, rfl, (Go.Value.int Go.IntKind.i32 0), rfl, rfl, rfl⟩, ⟨_, Tryz.underlying21, by first | trivial | exact rfl | exact ⟨rfl, rfl⟩, rfl⟩⟩
theorem ok22 : TIok Tryz.prog 22 ti22 := ⟨⟨Tryz.t22, by kernel_rfl, rfl, rfl, (Go.Value.slice none 0 0), rfl, rfl, rfl⟩, ⟨_, Tryz.underlying22, by first | trivial | exact rfl | exact ⟨rfl, rfl⟩, rfl⟩⟩
theorem ok26 : TIok Tryz.prog 26 ti26 := ⟨⟨Tryz.t26, by kernel_rfl, rfl, rfl, (Go.Value.int Go.IntKind.i64 0), rfl, rfl, rfl⟩, ⟨_, Tryz.underlying26, by first | trivial | exact rfl | exact ⟨rfl, rfl⟩, rfl⟩⟩
theorem ok31 : TIok Tryz.prog 31 ti31 := ⟨⟨Tryz.t31, by kernel_rfl, rfl, rfl, (Go.Value.agg #[Go.Value.int Go.IntKind.i64 0, Go.Value.int Go.IntKind.i64 0]), rfl, rfl, rfl⟩, ⟨_, Tryz.underlying31, by first | trivial | exact rfl | exact ⟨rfl, rfl⟩, rfl⟩⟩
theorem ok35 : TIok Tryz.prog 35 ti35 := ⟨⟨Tryz.t35, by kernel_rfl, rfl, rfl, (Go.Value.agg #[Go.Value.int Go.IntKind.i64 0, Go.Value.int Go.IntKind.i64 0, Go.Value.slice none 0 0]), rfl, rfl, rfl⟩, ⟨_, Tryz.underlying35, by first | trivial | exact rfl | exact ⟨rfl, rfl⟩, rfl⟩⟩
theorem ok49 : TIok Tryz.prog 49 ti49 := ⟨⟨Tryz.t49, by kernel_rfl, rfl, rfl, (Go.Value.agg #[Go.Value.int Go.IntKind.i64 0, Go.Value.int Go.IntKind.i64 0, Go.Value.int Go.IntKind.i64 0, Go.Value.int Go.IntKind.i64 0, Go.Value.int Go.IntKind.i64 0, Go.Value.int Go.IntKind.i64 0]), rfl, rfl, rfl⟩, ⟨_, Tryz.underlying49, by first | trivial | exact rfl | exact ⟨rfl, rfl⟩, rfl⟩⟩
theorem ok59 : TIok Tryz.prog 59 ti59 := ⟨⟨Tryz.t59, by kernel_rfl, rfl, rfl, (Go.Value.slice none 0 0), rfl, rfl, rfl⟩, ⟨_, Tryz.underlying59, by first | trivial | exact rfl | exact ⟨rfl, rfl⟩, rfl⟩⟩
theorem ok63 : TIok Tryz.prog 63 ti63 := ⟨⟨Tryz.t63, by kernel_rfl, rfl, rfl, (Go.Value.slice none 0 0), rfl, rfl, rfl⟩, ⟨_, Tryz.underlying63, by first | trivial | exact rfl | exact ⟨rfl, rfl⟩, rfl⟩⟩
theorem ok66 : TIok Tryz.prog 66 ti66 := ⟨⟨Tryz.t66, by kernel_rfl, rfl, rfl, (Go.Value.slice none 0 0), rfl, rfl, rfl⟩, ⟨_, Tryz.underlying66, by first | trivial | exact rfl | exact ⟨rfl, rfl⟩, rfl⟩⟩
theorem ok69 : TIok Tryz.prog 69 ti69 := ⟨⟨Tryz.t69, by kernel_rfl, rfl, rfl, (Go.Value.agg #[Go.Value.int Go.IntKind.i64 0, Go.Value.int Go.IntKind.i64 0, Go.Value.slice none 0 0]), rfl, rfl, rfl⟩, ⟨_, Tryz.underlying69, by first | trivial | exact rfl | exact ⟨rfl, rfl⟩, rfl⟩⟩
theorem ok71 : TIok Tryz.prog 71 ti71 := ⟨⟨Tryz.t71, by kernel_rfl, rfl, rfl, (Go.Value.slice none 0 0), rfl, rfl, rfl⟩, ⟨_, Tryz.underlying71, by first | trivial | exact rfl | exact ⟨rfl, rfl⟩, rfl⟩⟩
theorem ok74 : TIok Tryz.prog 74 ti74 := ⟨⟨Tryz.t74, by kernel_rfl, rfl, rfl, (Go.Value.nilFunc), rfl, rfl, rfl⟩, ⟨_, Tryz.underlying74, by first | trivial | exact rfl | exact ⟨rfl, rfl⟩, rfl⟩⟩
theorem ok78 : TIok Tryz.prog 78 ti78 := ⟨⟨Tryz.t78, by kernel_rfl, rfl, rfl, (Go.Value.slice none 0 0), rfl, rfl, rfl⟩, ⟨_, Tryz.underlying78, by first | trivial | exact rfl | exact ⟨rfl, rfl⟩, rfl⟩⟩
theorem ok86 : TIok Tryz.prog 86 ti86 := ⟨⟨Tryz.t86, by kernel_rfl, rfl, rfl, (Go.Value.slice none 0 0), rfl, rfl, rfl⟩, ⟨_, Tryz.underlying86, by first | trivial | exact rfl | exact ⟨rfl, rfl⟩, rfl⟩⟩
theorem ok92 : TIok Tryz.prog 92 ti92 := ⟨⟨Tryz.t92, by kernel_rfl, rfl, rfl, (Go.Value.agg #[Go.Value.int Go.IntKind.i64 0, Go.Value.int Go.IntKind.i64 0, Go.Value.int Go.IntKind.i64 0, Go.Value.int Go.IntKind.i64 0]), rfl, rfl, rfl⟩, ⟨_, Tryz.underlying92, by first | trivial | exact rfl | exact ⟨rfl, rfl⟩, rfl⟩⟩
theorem ok93 : TIok Tryz.prog 93 ti93 := ⟨⟨Tryz.t93, by kernel_rfl, rfl, rfl, (Go.Value.slice none 0 0), rfl, rfl, rfl⟩, ⟨_, Tryz.underlying93, by first | trivial | exact rfl | exact ⟨rfl, rfl⟩, rfl⟩⟩
theorem ok95 : TIok Tryz.prog 95 ti95 := ⟨⟨Tryz.t95, by kernel_rfl, rfl, rfl, (Go.Value.pointer none), rfl, rfl, rfl⟩, ⟨_, Tryz.underlying95, by first | trivial | exact rfl | exact ⟨rfl, rfl⟩, rfl⟩⟩
theorem ok96 : TIok Tryz.prog 96 ti96 := ⟨⟨Tryz.t96, by kernel_rfl, rfl, rfl, (Go.Value.pointer none), rfl, rfl, rfl⟩, ⟨_, Tryz.underlying96, by first | trivial | exact rfl | exact ⟨rfl, rfl⟩, rfl⟩⟩
theorem ok105 : TIok Tryz.prog 105 ti105 := ⟨⟨Tryz.t105, by kernel_rfl, rfl, rfl, (Go.Value.slice none 0 0), rfl, rfl, rfl⟩, ⟨_, Tryz.underlying105, by first | trivial | exact rfl | exact ⟨rfl, rfl⟩, rfl⟩⟩
theorem ok110 : TIok Tryz.prog 110 ti110 := ⟨⟨Tryz.t110, by kernel_rfl, rfl, rfl, (Go.Value.nilIface), rfl, rfl, rfl⟩, ⟨_, Tryz.underlying110, by first | trivial | exact rfl | exact ⟨rfl, rfl⟩, rfl⟩⟩
theorem ok115 : TIok Tryz.prog 115 ti115 := ⟨⟨Tryz.t115, by kernel_rfl, rfl, rfl, (Go.Value.pointer none), rfl, rfl, rfl⟩, ⟨_, Tryz.underlying115, by first | trivial | exact rfl | exact ⟨rfl, rfl⟩, rfl⟩⟩
theorem ok116 : TIok Tryz.prog 116 ti116 := ⟨⟨Tryz.t116, by kernel_rfl, rfl, rfl, (Go.Value.slice none 0 0), rfl, rfl, rfl⟩, ⟨_, Tryz.underlying116, by first | trivial | exact rfl | exact ⟨rfl, rfl⟩, rfl⟩⟩
theorem ok118 : TIok Tryz.prog 118 ti118 := ⟨⟨Tryz.t118, by kernel_rfl, rfl, rfl, (Go.Value.agg #[Go.Value.pointer none, Go.Value.slice none 0 0]), rfl, rfl, rfl⟩, ⟨_, Tryz.underlying118, by first | trivial | exact rfl | exact ⟨rfl, rfl⟩, rfl⟩⟩
theorem ok139 : TIok Tryz.prog 139 ti139 := ⟨⟨Tryz.t139, by kernel_rfl, rfl, rfl, (Go.Value.pointer none), rfl, rfl, rfl⟩, ⟨_, Tryz.underlying139, by first | trivial | exact rfl | exact ⟨rfl, rfl⟩, rfl⟩⟩
theorem ok145 : TIok Tryz.prog 145 ti145 := ⟨⟨Tryz.t145, by kernel_rfl, rfl, rfl, (Go.Value.pointer none), rfl, rfl, rfl⟩, ⟨_, Tryz.underlying145, by first | trivial | exact rfl | exact ⟨rfl, rfl⟩, rfl⟩⟩
theorem ok149 : TIok Tryz.prog 149 ti149 := ⟨⟨Tryz.t149, by kernel_rfl, rfl, rfl, (Go.Value.agg #[Go.Value.int Go.IntKind.i64 0, Go.Value.int Go.IntKind.i64 0, Go.Value.int Go.IntKind.i64 0]), rfl, rfl, rfl⟩, ⟨_, Tryz.underlying149, by first | trivial | exact rfl | exact ⟨rfl, rfl⟩, rfl⟩⟩
theorem ok150 : TIok Tryz.prog 150 ti150 := ⟨⟨Tryz.t150, by kernel_rfl, rfl, rfl, (Go.Value.int Go.IntKind.i64 0), rfl, rfl, rfl⟩, ⟨_, Tryz.underlying150, by first | trivial | exact rfl | exact ⟨rfl, rfl⟩, rfl⟩⟩
theorem ok153 : TIok Tryz.prog 153 ti153 := ⟨⟨Tryz.t153, by kernel_rfl, rfl, rfl, (Go.Value.pointer none), rfl, rfl, rfl⟩, ⟨_, Tryz.underlying153, by first | trivial | exact rfl | exact ⟨rfl, rfl⟩, rfl⟩⟩
theorem ok157 : TIok Tryz.prog 157 ti157 := ⟨⟨Tryz.t157, by kernel_rfl, rfl, rfl, (Go.Value.agg #[Go.Value.int Go.IntKind.u8 0, Go.Value.int Go.IntKind.u8 0, Go.Value.int Go.IntKind.u8 0, Go.Value.int Go.IntKind.u8 0, Go.Value.int Go.IntKind.u8 0, Go.Value.int Go.IntKind.u8 0, Go.Value.int Go.IntKind.u8 0, Go.Value.int Go.IntKind.u8 0, Go.Value.int Go.IntKind.u8 0, Go.Value.int Go.IntKind.u8 0, Go.Value.int Go.IntKind.u8 0, Go.Value.int Go.IntKind.u8 0, Go.Value.int Go.IntKind.u8 0, Go.Value.int Go.IntKind.u8 0, Go.Value.int Go.IntKind.u8 0, Go.Value.int Go.IntKind.u8 0, Go.Value.int Go.IntKind.u8 0, Go.Value.int Go.IntKind.u8 0, Go.Value.int Go.IntKind.u8 0, Go.Value.int Go.IntKind.u8 0, Go.Value.int Go.IntKind.u8 0, Go.Value.int Go.IntKind.u8 0, Go.Value.int Go.IntKind.u8 0, Go.Value.int Go.IntKind.u8 0]), rfl, rfl, rfl⟩, ⟨_, Tryz.underlying157, by first | trivial | exact rfl | exact ⟨rfl, rfl⟩, rfl⟩⟩
theorem ok158 : TIok Tryz.prog 158 ti158 := ⟨⟨Tryz.t158, by kernel_rfl, rfl, rfl, (Go.Value.int Go.IntKind.u64 0), rfl, rfl, rfl⟩, ⟨_, Tryz.underlying158, by first | trivial | exact rfl | exact ⟨rfl, rfl⟩, rfl⟩⟩
theorem ok173 : TIok Tryz.prog 173 ti173 := ⟨⟨Tryz.t173, by kernel_rfl, rfl, rfl, (Go.Value.int Go.IntKind.u64 0), rfl, rfl, rfl⟩, ⟨_, Tryz.underlying173, by first | trivial | exact rfl | exact ⟨rfl, rfl⟩, rfl⟩⟩
theorem ok175 : TIok Tryz.prog 175 ti175 := ⟨⟨Tryz.t175, by kernel_rfl, rfl, rfl, (Go.Value.agg #[Go.Value.int Go.IntKind.u8 0, Go.Value.int Go.IntKind.u8 0]), rfl, rfl, rfl⟩, ⟨_, Tryz.underlying175, by first | trivial | exact rfl | exact ⟨rfl, rfl⟩, rfl⟩⟩
theorem ok176 : TIok Tryz.prog 176 ti176 := ⟨⟨Tryz.t176, by kernel_rfl, rfl, rfl, (Go.Value.agg #[Go.Value.int Go.IntKind.u8 0, Go.Value.int Go.IntKind.u8 0, Go.Value.int Go.IntKind.u8 0, Go.Value.int Go.IntKind.u8 0, Go.Value.int Go.IntKind.u8 0, Go.Value.int Go.IntKind.u8 0, Go.Value.int Go.IntKind.u8 0, Go.Value.int Go.IntKind.u8 0, Go.Value.int Go.IntKind.u8 0, Go.Value.int Go.IntKind.u8 0, Go.Value.int Go.IntKind.u8 0, Go.Value.int Go.IntKind.u8 0, Go.Value.int Go.IntKind.u8 0, Go.Value.int Go.IntKind.u8 0, Go.Value.int Go.IntKind.u8 0, Go.Value.int Go.IntKind.u8 0, Go.Value.int Go.IntKind.u8 0, Go.Value.int Go.IntKind.u8 0, Go.Value.int Go.IntKind.u8 0, Go.Value.int Go.IntKind.u8 0, Go.Value.int Go.IntKind.u8 0, Go.Value.int Go.IntKind.u8 0, Go.Value.int Go.IntKind.u8 0, Go.Value.int Go.IntKind.u8 0, Go.Value.int Go.IntKind.u8 0, Go.Value.int Go.IntKind.u8 0, Go.Value.int Go.IntKind.u8 0, Go.Value.int Go.IntKind.u8 0, Go.Value.int Go.IntKind.u8 0, Go.Value.int Go.IntKind.u8 0, Go.Value.int Go.IntKind.u8 0, Go.Value.int Go.IntKind.u8 0]), rfl, rfl, rfl⟩, ⟨_, Tryz.underlying176, by first | trivial | exact rfl | exact ⟨rfl, rfl⟩, rfl⟩⟩
theorem ok181 : TIok Tryz.prog 181 ti181 := ⟨⟨Tryz.t181, by kernel_rfl, rfl, rfl, (Go.Value.agg #[Go.Value.string { data := #[] }, Go.Value.string { data := #[] }, Go.Value.nilIface]), rfl, rfl, rfl⟩, ⟨_, Tryz.underlying181, by first | trivial | exact rfl | exact ⟨rfl, rfl⟩, rfl⟩⟩
theorem ok184 : TIok Tryz.prog 184 ti184 := ⟨⟨Tryz.t184, by kernel_rfl, rfl, rfl, (Go.Value.agg #[Go.Value.int Go.IntKind.u64 0, Go.Value.int Go.IntKind.u64 0, Go.Value.int Go.IntKind.u64 0, Go.Value.int Go.IntKind.u64 0, Go.Value.int Go.IntKind.u64 0, Go.Value.int Go.IntKind.u64 0, Go.Value.int Go.IntKind.u64 0, Go.Value.int Go.IntKind.u64 0, Go.Value.int Go.IntKind.u64 0, Go.Value.int Go.IntKind.u64 0, Go.Value.int Go.IntKind.u64 0, Go.Value.int Go.IntKind.u64 0, Go.Value.int Go.IntKind.u64 0, Go.Value.int Go.IntKind.u64 0, Go.Value.int Go.IntKind.u64 0, Go.Value.int Go.IntKind.u64 0, Go.Value.int Go.IntKind.u64 0, Go.Value.int Go.IntKind.u64 0, Go.Value.int Go.IntKind.u64 0, Go.Value.int Go.IntKind.u64 0]), rfl, rfl, rfl⟩, ⟨_, Tryz.underlying184, by first | trivial | exact rfl | exact ⟨rfl, rfl⟩, rfl⟩⟩
theorem ok185 : TIok Tryz.prog 185 ti185 := ⟨⟨Tryz.t185, by kernel_rfl, rfl, rfl, (Go.Value.int Go.IntKind.u32 0), rfl, rfl, rfl⟩, ⟨_, Tryz.underlying185, by first | trivial | exact rfl | exact ⟨rfl, rfl⟩, rfl⟩⟩
theorem ok190 : TIok Tryz.prog 190 ti190 := ⟨⟨Tryz.t190, by kernel_rfl, rfl, rfl, (Go.Value.agg #[Go.Value.int Go.IntKind.i64 0]), rfl, rfl, rfl⟩, ⟨_, Tryz.underlying190, by first | trivial | exact rfl | exact ⟨rfl, rfl⟩, rfl⟩⟩
theorem ok192 : TIok Tryz.prog 192 ti192 := ⟨⟨Tryz.t192, by kernel_rfl, rfl, rfl, (Go.Value.agg #[]), rfl, rfl, rfl⟩, ⟨_, Tryz.underlying192, by first | trivial | exact rfl | exact ⟨rfl, rfl⟩, rfl⟩⟩
theorem ok196 : TIok Tryz.prog 196 ti196 := ⟨⟨Tryz.t196, by kernel_rfl, rfl, rfl, (Go.Value.pointer none), rfl, rfl, rfl⟩, ⟨_, Tryz.underlying196, by first | trivial | exact rfl | exact ⟨rfl, rfl⟩, rfl⟩⟩
theorem ok198 : TIok Tryz.prog 198 ti198 := ⟨⟨Tryz.t198, by kernel_rfl, rfl, rfl, (Go.Value.agg #[Go.Value.string { data := #[] }]), rfl, rfl, rfl⟩, ⟨_, Tryz.underlying198, by first | trivial | exact rfl | exact ⟨rfl, rfl⟩, rfl⟩⟩
theorem ok200 : TIok Tryz.prog 200 ti200 := ⟨⟨Tryz.t200, by kernel_rfl, rfl, rfl, (Go.Value.agg #[Go.Value.int Go.IntKind.u8 0, Go.Value.int Go.IntKind.u8 0, Go.Value.int Go.IntKind.u8 0, Go.Value.int Go.IntKind.u8 0, Go.Value.int Go.IntKind.u8 0, Go.Value.int Go.IntKind.u8 0, Go.Value.int Go.IntKind.u8 0, Go.Value.int Go.IntKind.u8 0, Go.Value.int Go.IntKind.u8 0, Go.Value.int Go.IntKind.u8 0, Go.Value.int Go.IntKind.u8 0, Go.Value.int Go.IntKind.u8 0, Go.Value.int Go.IntKind.u8 0, Go.Value.int Go.IntKind.u8 0, Go.Value.int Go.IntKind.u8 0, Go.Value.int Go.IntKind.u8 0, Go.Value.int Go.IntKind.u8 0, Go.Value.int Go.IntKind.u8 0, Go.Value.int Go.IntKind.u8 0, Go.Value.int Go.IntKind.u8 0, Go.Value.int Go.IntKind.u8 0, Go.Value.int Go.IntKind.u8 0, Go.Value.int Go.IntKind.u8 0, Go.Value.int Go.IntKind.u8 0, Go.Value.int Go.IntKind.u8 0, Go.Value.int Go.IntKind.u8 0, Go.Value.int Go.IntKind.u8 0, Go.Value.int Go.IntKind.u8 0, Go.Value.int Go.IntKind.u8 0, Go.Value.int Go.IntKind.u8 0, Go.Value.int Go.IntKind.u8 0, Go.Value.int Go.IntKind.u8 0]), rfl, rfl, rfl⟩, ⟨_, Tryz.underlying200, by first | trivial | exact rfl | exact ⟨rfl, rfl⟩, rfl⟩⟩
theorem ok201 : TIok Tryz.prog 201 ti201 := ⟨⟨Tryz.t201, by kernel_rfl, rfl, rfl, (Go.Value.agg #[Go.Value.int Go.IntKind.u8 0, Go.Value.int Go.IntKind.u8 0, Go.Value.int Go.IntKind.u8 0, Go.Value.int Go.IntKind.u8 0, Go.Value.int Go.IntKind.u8 0, Go.Value.int Go.IntKind.u8 0, Go.Value.int Go.IntKind.u8 0, Go.Value.int Go.IntKind.u8 0, Go.Value.int Go.IntKind.u8 0, Go.Value.int Go.IntKind.u8 0, Go.Value.int Go.IntKind.u8 0, Go.Value.int Go.IntKind.u8 0, Go.Value.int Go.IntKind.u8 0, Go.Value.int Go.IntKind.u8 0, Go.Value.int Go.IntKind.u8 0, Go.Value.int Go.IntKind.u8 0, Go.Value.int Go.IntKind.u8 0, Go.Value.int Go.IntKind.u8 0, Go.Value.int Go.IntKind.u8 0, Go.Value.int Go.IntKind.u8 0, Go.Value.int Go.IntKind.u8 0, Go.Value.int Go.IntKind.u8 0, Go.Value.int Go.IntKind.u8 0, Go.Value.int Go.IntKind.u8 0, Go.Value.int Go.IntKind.u8 0, Go.Value.int Go.IntKind.u8 0, Go.Value.int Go.IntKind.u8 0, Go.Value.int Go.IntKind.u8 0, Go.Value.int Go.IntKind.u8 0, Go.Value.int Go.IntKind.u8 0, Go.Value.int Go.IntKind.u8 0, Go.Value.int Go.IntKind.u8 0, Go.Value.int Go.IntKind.u8 0, Go.Value.int Go.IntKind.u8 0, Go.Value.int Go.IntKind.u8 0, Go.Value.int Go.IntKind.u8 0, Go.Value.int Go.IntKind.u8 0, Go.Value.int Go.IntKind.u8 0, Go.Value.int Go.IntKind.u8 0, Go.Value.int Go.IntKind.u8 0, Go.Value.int Go.IntKind.u8 0, Go.Value.int Go.IntKind.u8 0, Go.Value.int Go.IntKind.u8 0, Go.Value.int Go.IntKind.u8 0, Go.Value.int Go.IntKind.u8 0, Go.Value.int Go.IntKind.u8 0, Go.Value.int Go.IntKind.u8 0, Go.Value.int Go.IntKind.u8 0, Go.Value.int Go.IntKind.u8 0, Go.Value.int Go.IntKind.u8 0, Go.Value.int Go.IntKind.u8 0, Go.Value.int Go.IntKind.u8 0, Go.Value.int Go.IntKind.u8 0, Go.Value.int Go.IntKind.u8 0, Go.Value.int Go.IntKind.u8 0, Go.Value.int Go.IntKind.u8 0, Go.Value.int Go.IntKind.u8 0, Go.Value.int Go.IntKind.u8 0, Go.Value.int Go.IntKind.u8 0, Go.Value.int Go.IntKind.u8 0, Go.Value.int Go.IntKind.u8 0, Go.Value.int Go.IntKind.u8 0, Go.Value.int Go.IntKind.u8 0, Go.Value.int Go.IntKind.u8 0]), rfl, rfl, rfl⟩, ⟨_, Tryz.underlying201, by first | trivial | exact rfl | exact ⟨rfl, rfl⟩, rfl⟩⟩
theorem ok216 : TIok Tryz.prog 216 ti216 := ⟨⟨Tryz.t216, by kernel_rfl, rfl, rfl, (Go.Value.nilFunc), rfl, rfl, rfl⟩, ⟨_, Tryz.underlying216, by first | trivial | exact rfl | exact ⟨rfl, rfl⟩, rfl⟩⟩
theorem ok222 : TIok Tryz.prog 222 ti222 := ⟨⟨Tryz.t222, by kernel_rfl, rfl, rfl, (Go.Value.int Go.IntKind.i64 0), rfl, rfl, rfl⟩, ⟨_, Tryz.underlying222, by first | trivial | exact rfl | exact ⟨rfl, rfl⟩, rfl⟩⟩
theorem ok228 : TIok Tryz.prog 228 ti228 := ⟨⟨Tryz.t228, by kernel_rfl, rfl, rfl, (Go.Value.int Go.IntKind.u64 0), rfl, rfl, rfl⟩, ⟨_, Tryz.underlying228, by first | trivial | exact rfl | exact ⟨rfl, rfl⟩, rfl⟩⟩
theorem tyAll : ∀ p ∈ tyL, TIok Tryz.prog p.1 p.2 := by
  unfold tyL
  refine List.forall_mem_cons.2 ⟨ok2, List.forall_mem_cons.2 ⟨ok3, List.forall_mem_cons.2 ⟨ok4, List.forall_mem_cons.2 ⟨ok5, List.forall_mem_cons.2 ⟨ok9, List.forall_mem_cons.2 ⟨ok21, List.forall_mem_cons.2 ⟨ok22, List.forall_mem_cons.2 ⟨ok26, List.forall_mem_cons.2 ⟨ok31, List.forall_mem_cons.2 ⟨ok35, List.forall_mem_cons.2 ⟨ok49, List.forall_mem_cons.2 ⟨ok59, List.forall_mem_cons.2 ⟨ok63, List.forall_mem_cons.2 ⟨ok66, List.forall_mem_cons.2 ⟨ok69, List.forall_mem_cons.2 ⟨ok71, List.forall_mem_cons.2 ⟨ok74, List.forall_mem_cons.2 ⟨ok78, List.forall_mem_cons.2 ⟨ok86, List.forall_mem_cons.2 ⟨ok92, List.forall_mem_cons.2 ⟨ok93, List.forall_mem_cons.2 ⟨ok95, List.forall_mem_cons.2 ⟨ok96, List.forall_mem_cons.2 ⟨ok105, List.forall_mem_cons.2 ⟨ok110, List.forall_mem_cons.2 ⟨ok115, List.forall_mem_cons.2 ⟨ok116, List.forall_mem_cons.2 ⟨ok118, List.forall_mem_cons.2 ⟨ok139, List.forall_mem_cons.2 ⟨ok145, List.forall_mem_cons.2 ⟨ok149, List.forall_mem_cons.2 ⟨ok150, List.forall_mem_cons.2 ⟨ok153, List.forall_mem_cons.2 ⟨ok157, List.forall_mem_cons.2 ⟨ok158, List.forall_mem_cons.2 ⟨ok173, List.forall_mem_cons.2 ⟨ok175, List.forall_mem_cons.2 ⟨ok176, List.forall_mem_cons.2 ⟨ok181, List.forall_mem_cons.2 ⟨ok184, List.forall_mem_cons.2 ⟨ok185, List.forall_mem_cons.2 ⟨ok190, List.forall_mem_cons.2 ⟨ok192, List.forall_mem_cons.2 ⟨ok196, List.forall_mem_cons.2 ⟨ok198, List.forall_mem_cons.2 ⟨ok200, List.forall_mem_cons.2 ⟨ok201, List.forall_mem_cons.2 ⟨ok216, List.forall_mem_cons.2 ⟨ok222, List.forall_mem_cons.2 ⟨ok228, fun _ h => nomatch h⟩⟩⟩⟩⟩⟩⟩⟩⟩⟩⟩⟩⟩⟩⟩⟩⟩⟩⟩⟩⟩⟩⟩⟩⟩⟩⟩⟩⟩⟩⟩⟩⟩⟩⟩⟩⟩⟩⟩⟩⟩⟩⟩⟩⟩⟩⟩⟩⟩⟩
theorem tyOk : TOk Tryz.prog tyTab := fun t ti h => tyAll (t, ti) (lkT_mem h)
noncomputable def nm0 : String := ((Tryz.t190.methods[0]?).map (·.name)).getD default
noncomputable def nm1 : String := ((Tryz.t192.methods[0]?).map (·.name)).getD default
set_option linter.unusedVariables false
noncomputable def mTab (t : TypeId) (name : String) : Option FuncId :=
  if t = 190 ∧ name = nm0 then some 161 else if t = 192 ∧ name = nm1 then some 187 else none
theorem m0 (v : Value) (w : World) : (method (Tryz.prog.types.size + Made.depth) 190 v nm0).run Tryz.prog w = .ok (161, v) w := by kernel_rfl
theorem m1 (v : Value) (w : World) : (method (Tryz.prog.types.size + Made.depth) 192 v nm1).run Tryz.prog w = .ok (187, v) w := by kernel_rfl
def qTab (t : TypeId) : Option Nat :=
  if t = 31 then some 2 else if t = 49 then some 6 else if t = 92 then some 4 else if t = 190 then some 1 else none
theorem q31 (w : World) (op : BinOp) (x y : Operand) (xs ys : List Int) (h1 : xs.length = 2) (h2 : ys.length = 2) :
    (eqGuard op 31 x y (.agg (intCells xs)) (.agg (intCells ys))).run Tryz.prog w = .ok () w ∧
    (binOp .eql 31 (.agg (intCells xs)) (.agg (intCells ys))).run Tryz.prog w = .ok (.bool (xs == ys)) w ∧
    (binOp .neq 31 (.agg (intCells xs)) (.agg (intCells ys))).run Tryz.prog w = .ok (.bool (!(xs == ys))) w := by
  have hm : Tryz.prog.eqGuardType Tryz.prog.depth 31 = false := by kernel_rfl
  match xs, ys, h1, h2 with
  | [a0, a1], [b0, b1], _, _ =>
    have key : (Op.equalIn 10000 31 (.agg (intCells [a0, a1])) (.agg (intCells [b0, b1]))).run Tryz.prog w = .ok ([a0, a1] == [b0, b1]) w := by
      simp only [intCells, List.map_cons, List.map_nil]
      simp [go_sem, List.cons_beq_cons]
      try grind
    exact ⟨run_eqGuard_agg w op 31 x y _ _ hm, by rw [run_eql_struct, key]; rfl, by rw [run_neq_struct, key]; rfl⟩
theorem q49 (w : World) (op : BinOp) (x y : Operand) (xs ys : List Int) (h1 : xs.length = 6) (h2 : ys.length = 6) :
    (eqGuard op 49 x y (.agg (intCells xs)) (.agg (intCells ys))).run Tryz.prog w = .ok () w ∧
    (binOp .eql 49 (.agg (intCells xs)) (.agg (intCells ys))).run Tryz.prog w = .ok (.bool (xs == ys)) w ∧
    (binOp .neq 49 (.agg (intCells xs)) (.agg (intCells ys))).run Tryz.prog w = .ok (.bool (!(xs == ys))) w := by
  have hm : Tryz.prog.eqGuardType Tryz.prog.depth 49 = false := by kernel_rfl
  match xs, ys, h1, h2 with
  | [a0, a1, a2, a3, a4, a5], [b0, b1, b2, b3, b4, b5], _, _ =>
    have key : (Op.equalIn 10000 49 (.agg (intCells [a0, a1, a2, a3, a4, a5])) (.agg (intCells [b0, b1, b2, b3, b4, b5]))).run Tryz.prog w = .ok ([a0, a1, a2, a3, a4, a5] == [b0, b1, b2, b3, b4, b5]) w := by
      simp only [intCells, List.map_cons, List.map_nil]
      simp [go_sem, List.cons_beq_cons]
      try grind
    exact ⟨run_eqGuard_agg w op 49 x y _ _ hm, by rw [run_eql_struct, key]; rfl, by rw [run_neq_struct, key]; rfl⟩
theorem q92 (w : World) (op : BinOp) (x y : Operand) (xs ys : List Int) (h1 : xs.length = 4) (h2 : ys.length = 4) :
    (eqGuard op 92 x y (.agg (intCells xs)) (.agg (intCells ys))).run Tryz.prog w = .ok () w ∧
    (binOp .eql 92 (.agg (intCells xs)) (.agg (intCells ys))).run Tryz.prog w = .ok (.bool (xs == ys)) w ∧
    (binOp .neq 92 (.agg (intCells xs)) (.agg (intCells ys))).run Tryz.prog w = .ok (.bool (!(xs == ys))) w := by
  have hm : Tryz.prog.eqGuardType Tryz.prog.depth 92 = false := by kernel_rfl
  match xs, ys, h1, h2 with
  | [a0, a1, a2, a3], [b0, b1, b2, b3], _, _ =>
    have key : (Op.equalIn 10000 92 (.agg (intCells [a0, a1, a2, a3])) (.agg (intCells [b0, b1, b2, b3]))).run Tryz.prog w = .ok ([a0, a1, a2, a3] == [b0, b1, b2, b3]) w := by
      simp only [intCells, List.map_cons, List.map_nil]
      simp [go_sem, List.cons_beq_cons]
      try grind
    exact ⟨run_eqGuard_agg w op 92 x y _ _ hm, by rw [run_eql_struct, key]; rfl, by rw [run_neq_struct, key]; rfl⟩
theorem q190 (w : World) (op : BinOp) (x y : Operand) (xs ys : List Int) (h1 : xs.length = 1) (h2 : ys.length = 1) :
    (eqGuard op 190 x y (.agg (intCells xs)) (.agg (intCells ys))).run Tryz.prog w = .ok () w ∧
    (binOp .eql 190 (.agg (intCells xs)) (.agg (intCells ys))).run Tryz.prog w = .ok (.bool (xs == ys)) w ∧
    (binOp .neq 190 (.agg (intCells xs)) (.agg (intCells ys))).run Tryz.prog w = .ok (.bool (!(xs == ys))) w := by
  have hm : Tryz.prog.eqGuardType Tryz.prog.depth 190 = false := by kernel_rfl
  match xs, ys, h1, h2 with
  | [a0], [b0], _, _ =>
    have key : (Op.equalIn 10000 190 (.agg (intCells [a0])) (.agg (intCells [b0]))).run Tryz.prog w = .ok ([a0] == [b0]) w := by
      simp only [intCells, List.map_cons, List.map_nil]
      simp [go_sem, List.cons_beq_cons]
      try grind
    exact ⟨run_eqGuard_agg w op 190 x y _ _ hm, by rw [run_eql_struct, key]; rfl, by rw [run_neq_struct, key]; rfl⟩
def sTab (t : TypeId) : Option (List Bool) :=
  if t = 198 then some [true] else none
theorem s198 (w : World) (op : BinOp) (x y : Operand) (us vs : List SV) (h1 : us.map SV.isS = [true]) (h2 : vs.map SV.isS = [true]) :
    (eqGuard op 198 x y (.agg (svCells us)) (.agg (svCells vs))).run Tryz.prog w = .ok () w ∧
    (binOp .eql 198 (.agg (svCells us)) (.agg (svCells vs))).run Tryz.prog w = .ok (.bool (svEqL us vs)) w ∧
    (binOp .neq 198 (.agg (svCells us)) (.agg (svCells vs))).run Tryz.prog w = .ok (.bool (!(svEqL us vs))) w := by
  have hm : Tryz.prog.eqGuardType Tryz.prog.depth 198 = false := by kernel_rfl
  obtain ⟨a0, la0, rfl, ea0, ah0⟩ := sv_cons h1
  obtain ⟨a0, rfl⟩ := sv_s ea0
  obtain rfl := sv_nil ah0
  obtain ⟨b0, lb0, rfl, eb0, bh0⟩ := sv_cons h2
  obtain ⟨b0, rfl⟩ := sv_s eb0
  obtain rfl := sv_nil bh0
  have key : (Op.equalIn 10000 198 (.agg (svCells [.s a0])) (.agg (svCells [.s b0]))).run Tryz.prog w = .ok (svEqL [.s a0] [.s b0]) w := by
    simp only [svCells, List.map_cons, List.map_nil, SV.val]
    simp only [svEqL, svEq, Bool.and_true]
    simp [go_sem]
    try (repeat' split) <;> simp_all
  exact ⟨run_eqGuard_agg w op 198 x y _ _ hm, by rw [run_eql_struct, key]; rfl, by rw [run_neq_struct, key]; rfl⟩
theorem qv31 : qTab 31 = some 2 := rfl
theorem qv49 : qTab 49 = some 6 := rfl
theorem qv92 : qTab 92 = some 4 := rfl
theorem qv190 : qTab 190 = some 1 := rfl
theorem sv198 : sTab 198 = some [true] := rfl
theorem qn198 : qTab 198 = none := rfl
noncomputable def ev : Ev := { P := Tryz.prog, T := tyTab, M := mTab, Q := qTab, S := sTab }
theorem ev_T : ev.T = tyTab := rfl
theorem ev_P : ev.P = Tryz.prog := rfl
theorem ev_Q : ev.Q = qTab := rfl
theorem ev_M : ev.M = mTab := rfl
theorem ev_S : ev.S = sTab := rfl
theorem evOk : EvOk ev := by
  refine ⟨tyOk, ?_, ?_, ?_, by kernel_rfl⟩
  · intro t name f h v w
    unfold ev mTab at h; dsimp only at h
    by_cases c0 : t = 190 ∧ name = nm0
    · rw [if_pos c0] at h; obtain ⟨rfl, rfl⟩ := c0; cases h; exact m0 v w
    rw [if_neg c0] at h
    by_cases c1 : t = 192 ∧ name = nm1
    · rw [if_pos c1] at h; obtain ⟨rfl, rfl⟩ := c1; cases h; exact m1 v w
    rw [if_neg c1] at h
    cases h
  · intro t n h w op x y xs ys h1 h2
    unfold ev qTab at h; dsimp only at h
    by_cases c31 : t = 31
    · rw [if_pos c31] at h; subst c31; cases h; exact q31 w op x y xs ys h1 h2
    rw [if_neg c31] at h
    by_cases c49 : t = 49
    · rw [if_pos c49] at h; subst c49; cases h; exact q49 w op x y xs ys h1 h2
    rw [if_neg c49] at h
    by_cases c92 : t = 92
    · rw [if_pos c92] at h; subst c92; cases h; exact q92 w op x y xs ys h1 h2
    rw [if_neg c92] at h
    by_cases c190 : t = 190
    · rw [if_pos c190] at h; subst c190; cases h; exact q190 w op x y xs ys h1 h2
    rw [if_neg c190] at h
    cases h
  · intro t ks h w op x y us vs h1 h2
    unfold ev sTab at h; dsimp only at h
    by_cases c198 : t = 198
    · rw [if_pos c198] at h; subst c198; cases h; exact s198 w op x y us vs h1 h2
    rw [if_neg c198] at h
    cases h
end Go.Proofs.YtpdecefdhkhlnaaGreatDoor
namespace Go.Proofs.YtpdecefdhkhlnaaGreatDoor
open Go.Ab Go.RowKit
attribute [go_sem] iv isl zrep_ints zrep_one zrep_zero splice_one List.set_cons_zero List.set_cons_succ ints_nil ints_length ints_one ints_plain ints_append ints_snoc ints_drop ints_take wpA_nil wpA_cons runO' opK moK gdB_true' gdB_false' pkB_true pkB_false isMut inMu sop mop dOk St.ge St.put geF lk_nil' lk_cons' ofV entry entryFr bop nilC bopN bopI bopS toSVs? SV.isS toU8s? svEqL svEq shrA_one inR_S withY_S isNilP uop pk conv loadA cellsK' fieldA fieldV indexA indexV exA nilA mkIf buildA buildSlA makeSlA fillK placeA AV.cells? plainL AV.plain sliceA bnd lenA mmA mm callV Ab.newRow appendA elems hset' toInts? ev_T ev_P ev_Q ev_M ev_S inR_P inR_T inR_M inR_Q inR_Y withY_P withY_T withY_M withY_Q withY_Y yldA bsplit_true bsplit_false cond_true cond_false Bool.and_true Bool.true_and Bool.and_false Bool.false_and Bool.not_true Bool.not_false List.elem_nil List.elem_cons beq_self_eq_true and_true true_and List.getElem?_toArray List.getElem?_cons_zero List.getElem?_cons_succ List.getElem?_nil Option.bind_some Option.map_some Option.map_none Option.getD_some Option.getD_none List.map_cons List.map_nil List.length_cons List.length_nil List.nil_append List.cons_append List.append_nil List.drop_zero List.drop_succ_cons List.take_succ_cons List.take_zero List.take_nil List.drop_nil Nat.zero_add Nat.add_zero Nat.zero_le ne_eq not_false_eq_true not_true_eq_false undef List.cons.injEq Option.some.injEq
attribute [go_sem] tab2 tab3 tab4 tab5 tab9 tab21 tab22 tab26 tab31 tab35 tab49 tab59 tab63 tab66 tab69 tab71 tab74 tab78 tab86 tab92 tab93 tab95 tab96 tab105 tab110 tab115 tab116 tab118 tab139 tab145 tab149 tab150 tab153 tab157 tab158 tab173 tab175 tab176 tab181 tab184 tab185 tab190 tab192 tab196 tab198 tab200 tab201 tab216 tab222 tab228 qv31 qv49 qv92 qv190 sv198 qn198
attribute [go_sem] ti2 ti3 ti4 ti5 ti9 ti21 ti22 ti26 ti31 ti35 ti49 ti59 ti63 ti66 ti69 ti71 ti74 ti78 ti86 ti92 ti93 ti95 ti96 ti105 ti110 ti115 ti116 ti118 ti139 ti145 ti149 ti150 ti153 ti157 ti158 ti173 ti175 ti176 ti181 ti184 ti185 ti190 ti192 ti196 ti198 ti200 ti201 ti216 ti222 ti228
attribute [go_sem] Tryz.ntmps0 Tryz.ntmps1 Tryz.ntmps2 Tryz.ntmps3 Tryz.ntmps4 Tryz.ntmps5 Tryz.ntmps6 Tryz.ntmps7 Tryz.ntmps8 Tryz.ntmps9 Tryz.ntmps10 Tryz.ntmps11 Tryz.ntmps12 Tryz.ntmps13 Tryz.ntmps14 Tryz.ntmps15 Tryz.ntmps16 Tryz.ntmps17 Tryz.ntmps18 Tryz.ntmps19 Tryz.ntmps20 Tryz.ntmps21 Tryz.ntmps22 Tryz.ntmps23 Tryz.ntmps24 Tryz.ntmps25 Tryz.ntmps26 Tryz.ntmps27 Tryz.ntmps28 Tryz.ntmps29 Tryz.ntmps30 Tryz.ntmps31 Tryz.ntmps32 Tryz.ntmps33 Tryz.ntmps34 Tryz.ntmps35 Tryz.ntmps36 Tryz.ntmps37 Tryz.ntmps38 Tryz.ntmps39 Tryz.ntmps40 Tryz.ntmps41 Tryz.ntmps42 Tryz.ntmps43 Tryz.ntmps44 Tryz.ntmps45 Tryz.ntmps46 Tryz.ntmps47 Tryz.ntmps48 Tryz.ntmps49 Tryz.ntmps50 Tryz.ntmps51 Tryz.ntmps52 Tryz.ntmps53 Tryz.ntmps54 Tryz.ntmps55 Tryz.ntmps56 Tryz.ntmps57 Tryz.ntmps58 Tryz.ntmps59 Tryz.ntmps60 Tryz.ntmps61 Tryz.ntmps62 Tryz.ntmps63 Tryz.ntmps64 Tryz.ntmps65 Tryz.ntmps66 Tryz.ntmps67 Tryz.ntmps68 Tryz.ntmps69 Tryz.ntmps70 Tryz.ntmps71 Tryz.ntmps72 Tryz.ntmps73 Tryz.ntmps74 Tryz.ntmps75 Tryz.ntmps76 Tryz.ntmps77 Tryz.ntmps78 Tryz.ntmps79 Tryz.ntmps80 Tryz.ntmps81 Tryz.ntmps82 Tryz.ntmps83 Tryz.ntmps84 Tryz.ntmps85 Tryz.ntmps86 Tryz.ntmps87 Tryz.ntmps88 Tryz.ntmps89 Tryz.ntmps90 Tryz.ntmps91 Tryz.ntmps92 Tryz.ntmps93 Tryz.ntmps94 Tryz.ntmps95 Tryz.ntmps96 Tryz.ntmps97 Tryz.ntmps98 Tryz.ntmps99 Tryz.ntmps100 Tryz.ntmps101 Tryz.ntmps102 Tryz.ntmps103 Tryz.ntmps104 Tryz.ntmps105 Tryz.ntmps106 Tryz.ntmps107 Tryz.ntmps108 Tryz.ntmps109 Tryz.ntmps110 Tryz.ntmps111 Tryz.ntmps112 Tryz.ntmps113 Tryz.ntmps114 Tryz.ntmps115 Tryz.ntmps116 Tryz.ntmps117 Tryz.ntmps118 Tryz.ntmps119 Tryz.ntmps120 Tryz.ntmps121 Tryz.ntmps122 Tryz.ntmps123 Tryz.ntmps124 Tryz.ntmps125 Tryz.ntmps126 Tryz.ntmps127 Tryz.ntmps128 Tryz.ntmps129 Tryz.ntmps130 Tryz.ntmps131 Tryz.ntmps132 Tryz.ntmps133 Tryz.ntmps134 Tryz.ntmps135 Tryz.ntmps136 Tryz.ntmps137 Tryz.ntmps138 Tryz.ntmps139 Tryz.ntmps140 Tryz.ntmps141 Tryz.ntmps142 Tryz.ntmps143 Tryz.ntmps144 Tryz.ntmps145 Tryz.ntmps146 Tryz.ntmps147 Tryz.ntmps148 Tryz.ntmps149 Tryz.ntmps150 Tryz.ntmps151 Tryz.ntmps152 Tryz.ntmps153 Tryz.ntmps154 Tryz.ntmps155 Tryz.ntmps156 Tryz.ntmps157 Tryz.ntmps158 Tryz.ntmps159 Tryz.ntmps160 Tryz.ntmps161 Tryz.ntmps162 Tryz.ntmps163 Tryz.ntmps164 Tryz.ntmps165 Tryz.ntmps166 Tryz.ntmps167 Tryz.ntmps168 Tryz.ntmps169 Tryz.ntmps170 Tryz.ntmps171 Tryz.ntmps172 Tryz.ntmps173 Tryz.ntmps174 Tryz.ntmps175 Tryz.ntmps176 Tryz.ntmps177 Tryz.ntmps178 Tryz.ntmps179 Tryz.ntmps180 Tryz.ntmps181 Tryz.ntmps182 Tryz.ntmps183 Tryz.ntmps184 Tryz.ntmps185 Tryz.ntmps186 Tryz.ntmps187 Tryz.ntmps188 Tryz.ntmps189 Tryz.ntmps190 Tryz.ntmps191 Tryz.ntmps192 Tryz.ntmps193 Tryz.ntmps194 Tryz.ntmps195 Tryz.ntmps196 Tryz.ntmps197 Tryz.ntmps198 Tryz.ntmps199
end Go.Proofs.YtpdecefdhkhlnaaGreatDoor

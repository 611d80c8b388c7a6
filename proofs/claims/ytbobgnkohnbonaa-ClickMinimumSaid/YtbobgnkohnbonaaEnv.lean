/- The table of types of this seat, for the abstract machine. Made by program (gen_env.py). -/
import Derived.Test.YtbobgnkohnbonaaAbC
import Derived.Test.YtbobgnkohnbonaaProg
import Derived.KernelRfl
set_option linter.unusedSimpArgs false
set_option maxRecDepth 100000
namespace Go.Proofs.Ytbobgnkohnbonaa
open Go.Ab Go.RowKit
def ti3 : TI := { size := 1, bytes := 8, agg := false, zero := .v (Go.Value.int Go.IntKind.i64 0), kind := .int .i64 }
def ti4 : TI := { size := 1, bytes := 1, agg := false, zero := .v (Go.Value.bool false), kind := .bool }
def ti5 : TI := { size := 1, bytes := 1, agg := false, zero := .v (Go.Value.int Go.IntKind.u8 0), kind := .int .u8 }
def ti9 : TI := { size := 1, bytes := 16, agg := false, zero := .v (Go.Value.string { data := #[] }), kind := .string }
def ti22 : TI := { size := 1, bytes := 24, agg := false, zero := .v (Go.Value.slice none 0 0), kind := .slice 3 }
def ti23 : TI := { size := 1, bytes := 24, agg := false, zero := .v (Go.Value.slice none 0 0), kind := .slice 58 }
def ti27 : TI := { size := 1, bytes := 8, agg := false, zero := .v (Go.Value.int Go.IntKind.i64 0), kind := .int .i64 }
def ti32 : TI := { size := 1, bytes := 24, agg := false, zero := .v (Go.Value.slice none 0 0), kind := .slice 86 }
def ti41 : TI := { size := 6, bytes := 48, agg := true, zero := .ag [.v (Go.Value.int Go.IntKind.i64 0), .v (Go.Value.int Go.IntKind.i64 0), .v (Go.Value.int Go.IntKind.i64 0), .v (Go.Value.int Go.IntKind.i64 0), .v (Go.Value.int Go.IntKind.i64 0), .v (Go.Value.int Go.IntKind.i64 0)], kind := .struct [(0, 3), (1, 3), (2, 3), (3, 3), (4, 3), (5, 3)] }
def ti42 : TI := { size := 1, bytes := 24, agg := false, zero := .v (Go.Value.slice none 0 0), kind := .slice 60 }
def ti58 : TI := { size := 2, bytes := 16, agg := true, zero := .ag [.v (Go.Value.int Go.IntKind.i64 0), .v (Go.Value.int Go.IntKind.i64 0)], kind := .struct [(0, 3), (1, 3)] }
def ti60 : TI := { size := 4, bytes := 32, agg := true, zero := .ag [.v (Go.Value.int Go.IntKind.i64 0), .v (Go.Value.int Go.IntKind.i64 0), .v (Go.Value.int Go.IntKind.i64 0), .v (Go.Value.int Go.IntKind.i64 0)], kind := .struct [(0, 58), (2, 3), (3, 3)] }
def ti63 : TI := { size := 3, bytes := 40, agg := true, zero := .ag [.v (Go.Value.int Go.IntKind.i64 0), .v (Go.Value.int Go.IntKind.i64 0), .v (Go.Value.slice none 0 0)], kind := .struct [(0, 3), (1, 3), (2, 22)] }
def ti72 : TI := { size := 2, bytes := 32, agg := true, zero := .ag [.v (Go.Value.slice none 0 0), .v (Go.Value.int Go.IntKind.i64 0)], kind := .struct [(0, 22), (1, 3)] }
def ti77 : TI := { size := 8, bytes := 64, agg := true, zero := .ag [.v (Go.Value.int Go.IntKind.i64 0), .v (Go.Value.int Go.IntKind.i64 0), .v (Go.Value.int Go.IntKind.i64 0), .v (Go.Value.int Go.IntKind.i64 0), .v (Go.Value.int Go.IntKind.i64 0), .v (Go.Value.int Go.IntKind.i64 0), .v (Go.Value.int Go.IntKind.i64 0), .v (Go.Value.int Go.IntKind.i64 0)], kind := .array 8 3 }
def ti80 : TI := { size := 1, bytes := 24, agg := false, zero := .v (Go.Value.slice none 0 0), kind := .slice 82 }
def ti82 : TI := { size := 2, bytes := 32, agg := true, zero := .ag [.v (Go.Value.int Go.IntKind.i64 0), .v (Go.Value.slice none 0 0)], kind := .struct [(0, 3), (1, 22)] }
def ti86 : TI := { size := 3, bytes := 40, agg := true, zero := .ag [.v (Go.Value.int Go.IntKind.i64 0), .v (Go.Value.int Go.IntKind.i64 0), .v (Go.Value.slice none 0 0)], kind := .struct [(0, 3), (1, 3), (2, 22)] }
def ti91 : TI := { size := 2, bytes := 16, agg := true, zero := .ag [.v (Go.Value.int Go.IntKind.i64 0), .v (Go.Value.int Go.IntKind.i64 0)], kind := .array 2 3 }
def ti110 : TI := { size := 1, bytes := 24, agg := false, zero := .v (Go.Value.slice none 0 0), kind := .slice 3 }
def ti113 : TI := { size := 1, bytes := 8, agg := false, zero := .v (Go.Value.nilFunc), kind := .other }
def ti126 : TI := { size := 1, bytes := 24, agg := false, zero := .v (Go.Value.slice none 0 0), kind := .slice 22 }
def ti134 : TI := { size := 1, bytes := 24, agg := false, zero := .v (Go.Value.slice none 0 0), kind := .slice 27 }
def ti140 : TI := { size := 2, bytes := 16, agg := true, zero := .ag [.v (Go.Value.int Go.IntKind.i64 0), .v (Go.Value.int Go.IntKind.i64 0)], kind := .struct [(0, 3), (1, 3)] }
def ti155 : TI := { size := 3, bytes := 24, agg := true, zero := .ag [.v (Go.Value.int Go.IntKind.i64 0), .v (Go.Value.int Go.IntKind.i64 0), .v (Go.Value.int Go.IntKind.i64 0)], kind := .array 3 3 }
def ti157 : TI := { size := 1, bytes := 8, agg := false, zero := .v (Go.Value.pointer none), kind := .pointer 60 }
def ti159 : TI := { size := 1, bytes := 8, agg := true, zero := .ag [.v (Go.Value.int Go.IntKind.i64 0)], kind := .struct [(0, 3)] }
def ti161 : TI := { size := 0, bytes := 0, agg := true, zero := .ag [], kind := .struct [] }
def ti168 : TI := { size := 1, bytes := 4, agg := false, zero := .v (Go.Value.int Go.IntKind.u32 0), kind := .int .u32 }
def ti179 : TI := { size := 1, bytes := 8, agg := false, zero := .v (Go.Value.nilFunc), kind := .other }
def ti185 : TI := { size := 1, bytes := 8, agg := false, zero := .v (Go.Value.int Go.IntKind.u64 0), kind := .int .u64 }
def ti187 : TI := { size := 1, bytes := 8, agg := false, zero := .v (Go.Value.int Go.IntKind.i64 0), kind := .int .i64 }
def ti196 : TI := { size := 1, bytes := 8, agg := false, zero := .v (Go.Value.int Go.IntKind.u64 0), kind := .int .u64 }
def ti197 : TI := { size := 1, bytes := 8, agg := false, zero := .v (Go.Value.int Go.IntKind.u64 0), kind := .int .u64 }
def ti201 : TI := { size := 1, bytes := 8, agg := false, zero := .v (Go.Value.pointer none), kind := .pointer 3 }
def tyL : List (Nat × TI) := [(3, ti3), (4, ti4), (5, ti5), (9, ti9), (22, ti22), (23, ti23), (27, ti27), (32, ti32), (41, ti41), (42, ti42), (58, ti58), (60, ti60), (63, ti63), (72, ti72), (77, ti77), (80, ti80), (82, ti82), (86, ti86), (91, ti91), (110, ti110), (113, ti113), (126, ti126), (134, ti134), (140, ti140), (155, ti155), (157, ti157), (159, ti159), (161, ti161), (168, ti168), (179, ti179), (185, ti185), (187, ti187), (196, ti196), (197, ti197), (201, ti201)]
def lkT : List (Nat × TI) → Nat → Option TI
  | [], _ => none
  | p :: l, t => bif p.1 == t then some p.2 else lkT l t
def tyTab : Tab := lkT tyL
theorem tab3 : tyTab 3 = some ti3 := rfl
theorem tab4 : tyTab 4 = some ti4 := rfl
theorem tab5 : tyTab 5 = some ti5 := rfl
theorem tab9 : tyTab 9 = some ti9 := rfl
theorem tab22 : tyTab 22 = some ti22 := rfl
theorem tab23 : tyTab 23 = some ti23 := rfl
theorem tab27 : tyTab 27 = some ti27 := rfl
theorem tab32 : tyTab 32 = some ti32 := rfl
theorem tab41 : tyTab 41 = some ti41 := rfl
theorem tab42 : tyTab 42 = some ti42 := rfl
theorem tab58 : tyTab 58 = some ti58 := rfl
theorem tab60 : tyTab 60 = some ti60 := rfl
theorem tab63 : tyTab 63 = some ti63 := rfl
theorem tab72 : tyTab 72 = some ti72 := rfl
theorem tab77 : tyTab 77 = some ti77 := rfl
theorem tab80 : tyTab 80 = some ti80 := rfl
theorem tab82 : tyTab 82 = some ti82 := rfl
theorem tab86 : tyTab 86 = some ti86 := rfl
theorem tab91 : tyTab 91 = some ti91 := rfl
theorem tab110 : tyTab 110 = some ti110 := rfl
theorem tab113 : tyTab 113 = some ti113 := rfl
theorem tab126 : tyTab 126 = some ti126 := rfl
theorem tab134 : tyTab 134 = some ti134 := rfl
theorem tab140 : tyTab 140 = some ti140 := rfl
theorem tab155 : tyTab 155 = some ti155 := rfl
theorem tab157 : tyTab 157 = some ti157 := rfl
theorem tab159 : tyTab 159 = some ti159 := rfl
theorem tab161 : tyTab 161 = some ti161 := rfl
theorem tab168 : tyTab 168 = some ti168 := rfl
theorem tab179 : tyTab 179 = some ti179 := rfl
theorem tab185 : tyTab 185 = some ti185 := rfl
theorem tab187 : tyTab 187 = some ti187 := rfl
theorem tab196 : tyTab 196 = some ti196 := rfl
theorem tab197 : tyTab 197 = some ti197 := rfl
theorem tab201 : tyTab 201 = some ti201 := rfl
theorem lkT_mem : ∀ {l : List (Nat × TI)} {t : Nat} {ti : TI}, lkT l t = some ti → (t, ti) ∈ l
  | p :: l, t, ti, h => by
    simp only [lkT] at h
    by_cases e : p.1 = t
    · subst e; simp at h; simp [← h]
    · rw [show (p.1 == t) = false by simpa using e, cond_false] at h
      exact List.mem_cons_of_mem _ (lkT_mem h)
theorem ok3 : TIok Try.prog 3 ti3 := ⟨⟨Try.t3, by kernel_rfl, rfl, rfl, (Go.Value.int Go.IntKind.i64 0), rfl, rfl, rfl⟩, ⟨_, Try.underlying3, by first | trivial | exact rfl | exact ⟨rfl, rfl⟩, rfl⟩⟩
theorem ok4 : TIok Try.prog 4 ti4 := ⟨⟨Try.t4, by kernel_rfl, rfl, rfl, (Go.Value.bool false), rfl, rfl, rfl⟩, ⟨_, Try.underlying4, by first | trivial | exact rfl | exact ⟨rfl, rfl⟩, rfl⟩⟩
theorem ok5 : TIok Try.prog 5 ti5 := ⟨⟨Try.t5, by kernel_rfl, rfl, rfl, (Go.Value.int Go.IntKind.u8 0), rfl, rfl, rfl⟩, ⟨_, Try.underlying5, by first | trivial | exact rfl | exact ⟨rfl, rfl⟩, rfl⟩⟩
theorem ok9 : TIok Try.prog 9 ti9 := ⟨⟨Try.t9, by kernel_rfl, rfl, rfl, (Go.Value.string { data := #[] }), rfl, rfl, rfl⟩, ⟨_, Try.underlying9, by first | trivial | exact rfl | exact ⟨rfl, rfl⟩, rfl⟩⟩
theorem ok22 : TIok Try.prog 22 ti22 := ⟨⟨Try.t22, by kernel_rfl, rfl, rfl, (Go.Value.slice none 0 0), rfl, rfl, rfl⟩, ⟨_, Try.underlying22, by first | trivial | exact rfl | exact ⟨rfl, rfl⟩, rfl⟩⟩
theorem ok23 : TIok Try.prog 23 ti23 := ⟨⟨Try.t23, by kernel_rfl, rfl, rfl, (Go.Value.slice none 0 0), rfl, rfl, rfl⟩, ⟨_, Try.underlying23, by first | trivial | exact rfl | exact ⟨rfl, rfl⟩, rfl⟩⟩
theorem ok27 : TIok Try.prog 27 ti27 := ⟨⟨Try.t27, by kernel_rfl, rfl, rfl, (Go.Value.int Go.IntKind.i64 0), rfl, rfl, rfl⟩, ⟨_, Try.underlying27, by first | trivial | exact rfl | exact ⟨rfl, rfl⟩, rfl⟩⟩
theorem ok32 : TIok Try.prog 32 ti32 := ⟨⟨Try.t32, by kernel_rfl, rfl, rfl, (Go.Value.slice none 0 0), rfl, rfl, rfl⟩, ⟨_, Try.underlying32, by first | trivial | exact rfl | exact ⟨rfl, rfl⟩, rfl⟩⟩
theorem ok41 : TIok Try.prog 41 ti41 := ⟨⟨Try.t41, by kernel_rfl, rfl, rfl, (Go.Value.agg #[Go.Value.int Go.IntKind.i64 0, Go.Value.int Go.IntKind.i64 0, Go.Value.int Go.IntKind.i64 0, Go.Value.int Go.IntKind.i64 0, Go.Value.int Go.IntKind.i64 0, Go.Value.int Go.IntKind.i64 0]), rfl, rfl, rfl⟩, ⟨_, Try.underlying41, by first | trivial | exact rfl | exact ⟨rfl, rfl⟩, rfl⟩⟩
theorem ok42 : TIok Try.prog 42 ti42 := ⟨⟨Try.t42, by kernel_rfl, rfl, rfl, (Go.Value.slice none 0 0), rfl, rfl, rfl⟩, ⟨_, Try.underlying42, by first | trivial | exact rfl | exact ⟨rfl, rfl⟩, rfl⟩⟩
theorem ok58 : TIok Try.prog 58 ti58 := ⟨⟨Try.t58, by kernel_rfl, rfl, rfl, (Go.Value.agg #[Go.Value.int Go.IntKind.i64 0, Go.Value.int Go.IntKind.i64 0]), rfl, rfl, rfl⟩, ⟨_, Try.underlying58, by first | trivial | exact rfl | exact ⟨rfl, rfl⟩, rfl⟩⟩
theorem ok60 : TIok Try.prog 60 ti60 := ⟨⟨Try.t60, by kernel_rfl, rfl, rfl, (Go.Value.agg #[Go.Value.int Go.IntKind.i64 0, Go.Value.int Go.IntKind.i64 0, Go.Value.int Go.IntKind.i64 0, Go.Value.int Go.IntKind.i64 0]), rfl, rfl, rfl⟩, ⟨_, Try.underlying60, by first | trivial | exact rfl | exact ⟨rfl, rfl⟩, rfl⟩⟩
theorem ok63 : TIok Try.prog 63 ti63 := ⟨⟨Try.t63, by kernel_rfl, rfl, rfl, (Go.Value.agg #[Go.Value.int Go.IntKind.i64 0, Go.Value.int Go.IntKind.i64 0, Go.Value.slice none 0 0]), rfl, rfl, rfl⟩, ⟨_, Try.underlying63, by first | trivial | exact rfl | exact ⟨rfl, rfl⟩, rfl⟩⟩
theorem ok72 : TIok Try.prog 72 ti72 := ⟨⟨Try.t72, by kernel_rfl, rfl, rfl, (Go.Value.agg #[Go.Value.slice none 0 0, Go.Value.int Go.IntKind.i64 0]), rfl, rfl, rfl⟩, ⟨_, Try.underlying72, by first | trivial | exact rfl | exact ⟨rfl, rfl⟩, rfl⟩⟩
theorem ok77 : TIok Try.prog 77 ti77 := ⟨⟨Try.t77, by kernel_rfl, rfl, rfl, (Go.Value.agg #[Go.Value.int Go.IntKind.i64 0, Go.Value.int Go.IntKind.i64 0, Go.Value.int Go.IntKind.i64 0, Go.Value.int Go.IntKind.i64 0, Go.Value.int Go.IntKind.i64 0, Go.Value.int Go.IntKind.i64 0, Go.Value.int Go.IntKind.i64 0, Go.Value.int Go.IntKind.i64 0]), rfl, rfl, rfl⟩, ⟨_, Try.underlying77, by first | trivial | exact rfl | exact ⟨rfl, rfl⟩, rfl⟩⟩
theorem ok80 : TIok Try.prog 80 ti80 := ⟨⟨Try.t80, by kernel_rfl, rfl, rfl, (Go.Value.slice none 0 0), rfl, rfl, rfl⟩, ⟨_, Try.underlying80, by first | trivial | exact rfl | exact ⟨rfl, rfl⟩, rfl⟩⟩
theorem ok82 : TIok Try.prog 82 ti82 := ⟨⟨Try.t82, by kernel_rfl, rfl, rfl, (Go.Value.agg #[Go.Value.int Go.IntKind.i64 0, Go.Value.slice none 0 0]), rfl, rfl, rfl⟩, ⟨_, Try.underlying82, by first | trivial | exact rfl | exact ⟨rfl, rfl⟩, rfl⟩⟩
theorem ok86 : TIok Try.prog 86 ti86 := ⟨⟨Try.t86, by kernel_rfl, rfl, rfl, (Go.Value.agg #[Go.Value.int Go.IntKind.i64 0, Go.Value.int Go.IntKind.i64 0, Go.Value.slice none 0 0]), rfl, rfl, rfl⟩, ⟨_, Try.underlying86, by first | trivial | exact rfl | exact ⟨rfl, rfl⟩, rfl⟩⟩
theorem ok91 : TIok Try.prog 91 ti91 := ⟨⟨Try.t91, by kernel_rfl, rfl, rfl, (Go.Value.agg #[Go.Value.int Go.IntKind.i64 0, Go.Value.int Go.IntKind.i64 0]), rfl, rfl, rfl⟩, ⟨_, Try.underlying91, by first | trivial | exact rfl | exact ⟨rfl, rfl⟩, rfl⟩⟩
theorem ok110 : TIok Try.prog 110 ti110 := ⟨⟨Try.t110, by kernel_rfl, rfl, rfl, (Go.Value.slice none 0 0), rfl, rfl, rfl⟩, ⟨_, Try.underlying110, by first | trivial | exact rfl | exact ⟨rfl, rfl⟩, rfl⟩⟩
theorem ok113 : TIok Try.prog 113 ti113 := ⟨⟨Try.t113, by kernel_rfl, rfl, rfl, (Go.Value.nilFunc), rfl, rfl, rfl⟩, ⟨_, Try.underlying113, by first | trivial | exact rfl | exact ⟨rfl, rfl⟩, rfl⟩⟩
theorem ok126 : TIok Try.prog 126 ti126 := ⟨⟨Try.t126, by kernel_rfl, rfl, rfl, (Go.Value.slice none 0 0), rfl, rfl, rfl⟩, ⟨_, Try.underlying126, by first | trivial | exact rfl | exact ⟨rfl, rfl⟩, rfl⟩⟩
theorem ok134 : TIok Try.prog 134 ti134 := ⟨⟨Try.t134, by kernel_rfl, rfl, rfl, (Go.Value.slice none 0 0), rfl, rfl, rfl⟩, ⟨_, Try.underlying134, by first | trivial | exact rfl | exact ⟨rfl, rfl⟩, rfl⟩⟩
theorem ok140 : TIok Try.prog 140 ti140 := ⟨⟨Try.t140, by kernel_rfl, rfl, rfl, (Go.Value.agg #[Go.Value.int Go.IntKind.i64 0, Go.Value.int Go.IntKind.i64 0]), rfl, rfl, rfl⟩, ⟨_, Try.underlying140, by first | trivial | exact rfl | exact ⟨rfl, rfl⟩, rfl⟩⟩
theorem ok155 : TIok Try.prog 155 ti155 := ⟨⟨Try.t155, by kernel_rfl, rfl, rfl, (Go.Value.agg #[Go.Value.int Go.IntKind.i64 0, Go.Value.int Go.IntKind.i64 0, Go.Value.int Go.IntKind.i64 0]), rfl, rfl, rfl⟩, ⟨_, Try.underlying155, by first | trivial | exact rfl | exact ⟨rfl, rfl⟩, rfl⟩⟩
theorem ok157 : TIok Try.prog 157 ti157 := ⟨⟨Try.t157, by kernel_rfl, rfl, rfl, (Go.Value.pointer none), rfl, rfl, rfl⟩, ⟨_, Try.underlying157, by first | trivial | exact rfl | exact ⟨rfl, rfl⟩, rfl⟩⟩
theorem ok159 : TIok Try.prog 159 ti159 := ⟨⟨Try.t159, by kernel_rfl, rfl, rfl, (Go.Value.agg #[Go.Value.int Go.IntKind.i64 0]), rfl, rfl, rfl⟩, ⟨_, Try.underlying159, by first | trivial | exact rfl | exact ⟨rfl, rfl⟩, rfl⟩⟩
theorem ok161 : TIok Try.prog 161 ti161 := ⟨⟨Try.t161, by kernel_rfl, rfl, rfl, (Go.Value.agg #[]), rfl, rfl, rfl⟩, ⟨_, Try.underlying161, by first | trivial | exact rfl | exact ⟨rfl, rfl⟩, rfl⟩⟩
theorem ok168 : TIok Try.prog 168 ti168 := ⟨⟨Try.t168, by kernel_rfl, rfl, rfl, (Go.Value.int Go.IntKind.u32 0), rfl, rfl, rfl⟩, ⟨_, Try.underlying168, by first | trivial | exact rfl | exact ⟨rfl, rfl⟩, rfl⟩⟩
theorem ok179 : TIok Try.prog 179 ti179 := ⟨⟨Try.t179, by kernel_rfl, rfl, rfl, (Go.Value.nilFunc), rfl, rfl, rfl⟩, ⟨_, Try.underlying179, by first | trivial | exact rfl | exact ⟨rfl, rfl⟩, rfl⟩⟩
theorem ok185 : TIok Try.prog 185 ti185 := ⟨⟨Try.t185, by kernel_rfl, rfl, rfl, (Go.Value.int Go.IntKind.u64 0), rfl, rfl, rfl⟩, ⟨_, Try.underlying185, by first | trivial | exact rfl | exact ⟨rfl, rfl⟩, rfl⟩⟩
theorem ok187 : TIok Try.prog 187 ti187 := ⟨⟨Try.t187, by kernel_rfl, rfl, rfl, (Go.Value.int Go.IntKind.i64 0), rfl, rfl, rfl⟩, ⟨_, Try.underlying187, by first | trivial | exact rfl | exact ⟨rfl, rfl⟩, rfl⟩⟩
theorem ok196 : TIok Try.prog 196 ti196 := ⟨⟨Try.t196, by kernel_rfl, rfl, rfl, (Go.Value.int Go.IntKind.u64 0), rfl, rfl, rfl⟩, ⟨_, Try.underlying196, by first | trivial | exact rfl | exact ⟨rfl, rfl⟩, rfl⟩⟩
theorem ok197 : TIok Try.prog 197 ti197 := ⟨⟨Try.t197, by kernel_rfl, rfl, rfl, (Go.Value.int Go.IntKind.u64 0), rfl, rfl, rfl⟩, ⟨_, Try.underlying197, by first | trivial | exact rfl | exact ⟨rfl, rfl⟩, rfl⟩⟩
theorem ok201 : TIok Try.prog 201 ti201 := ⟨⟨Try.t201, by kernel_rfl, rfl, rfl, (Go.Value.pointer none), rfl, rfl, rfl⟩, ⟨_, Try.underlying201, by first | trivial | exact rfl | exact ⟨rfl, rfl⟩, rfl⟩⟩
theorem tyAll : ∀ p ∈ tyL, TIok Try.prog p.1 p.2 := by
  unfold tyL
  refine List.forall_mem_cons.2 ⟨ok3, List.forall_mem_cons.2 ⟨ok4, List.forall_mem_cons.2 ⟨ok5, List.forall_mem_cons.2 ⟨ok9, List.forall_mem_cons.2 ⟨ok22, List.forall_mem_cons.2 ⟨ok23, List.forall_mem_cons.2 ⟨ok27, List.forall_mem_cons.2 ⟨ok32, List.forall_mem_cons.2 ⟨ok41, List.forall_mem_cons.2 ⟨ok42, List.forall_mem_cons.2 ⟨ok58, List.forall_mem_cons.2 ⟨ok60, List.forall_mem_cons.2 ⟨ok63, List.forall_mem_cons.2 ⟨ok72, List.forall_mem_cons.2 ⟨ok77, List.forall_mem_cons.2 ⟨ok80, List.forall_mem_cons.2 ⟨ok82, List.forall_mem_cons.2 ⟨ok86, List.forall_mem_cons.2 ⟨ok91, List.forall_mem_cons.2 ⟨ok110, List.forall_mem_cons.2 ⟨ok113, List.forall_mem_cons.2 ⟨ok126, List.forall_mem_cons.2 ⟨ok134, List.forall_mem_cons.2 ⟨ok140, List.forall_mem_cons.2 ⟨ok155, List.forall_mem_cons.2 ⟨ok157, List.forall_mem_cons.2 ⟨ok159, List.forall_mem_cons.2 ⟨ok161, List.forall_mem_cons.2 ⟨ok168, List.forall_mem_cons.2 ⟨ok179, List.forall_mem_cons.2 ⟨ok185, List.forall_mem_cons.2 ⟨ok187, List.forall_mem_cons.2 ⟨ok196, List.forall_mem_cons.2 ⟨ok197, List.forall_mem_cons.2 ⟨ok201, fun _ h => nomatch h⟩⟩⟩⟩⟩⟩⟩⟩⟩⟩⟩⟩⟩⟩⟩⟩⟩⟩⟩⟩⟩⟩⟩⟩⟩⟩⟩⟩⟩⟩⟩⟩⟩⟩⟩
theorem tyOk : TOk Try.prog tyTab := fun t ti h => tyAll (t, ti) (lkT_mem h)
noncomputable def nm0 : String := ((Try.t159.methods[0]?).map (·.name)).getD default
noncomputable def nm1 : String := ((Try.t161.methods[0]?).map (·.name)).getD default
set_option linter.unusedVariables false
noncomputable def mTab (t : TypeId) (name : String) : Option FuncId :=
  if t = 159 ∧ name = nm0 then some 148 else if t = 161 ∧ name = nm1 then some 175 else none
theorem m0 (v : Value) (w : World) : (method (Try.prog.types.size + Made.depth) 159 v nm0).run Try.prog w = .ok (148, v) w := by kernel_rfl
theorem m1 (v : Value) (w : World) : (method (Try.prog.types.size + Made.depth) 161 v nm1).run Try.prog w = .ok (175, v) w := by kernel_rfl
def qTab (t : TypeId) : Option Nat :=
  if t = 41 then some 6 else if t = 58 then some 2 else if t = 60 then some 4 else if t = 140 then some 2 else if t = 159 then some 1 else none
theorem q41 (w : World) (op : BinOp) (x y : Operand) (xs ys : List Int) (h1 : xs.length = 6) (h2 : ys.length = 6) :
    (eqGuard op 41 x y (.agg (intCells xs)) (.agg (intCells ys))).run Try.prog w = .ok () w ∧
    (binOp .eql 41 (.agg (intCells xs)) (.agg (intCells ys))).run Try.prog w = .ok (.bool (xs == ys)) w ∧
    (binOp .neq 41 (.agg (intCells xs)) (.agg (intCells ys))).run Try.prog w = .ok (.bool (!(xs == ys))) w := by
  have hm : Try.prog.eqGuardType Try.prog.depth 41 = false := by kernel_rfl
  match xs, ys, h1, h2 with
  | [a0, a1, a2, a3, a4, a5], [b0, b1, b2, b3, b4, b5], _, _ =>
    have key : (Op.equalIn 10000 41 (.agg (intCells [a0, a1, a2, a3, a4, a5])) (.agg (intCells [b0, b1, b2, b3, b4, b5]))).run Try.prog w = .ok ([a0, a1, a2, a3, a4, a5] == [b0, b1, b2, b3, b4, b5]) w := by
      simp only [intCells, List.map_cons, List.map_nil]
      simp [go_sem, List.cons_beq_cons]
      try grind
    exact ⟨run_eqGuard_agg w op 41 x y _ _ hm, by rw [run_eql_struct, key]; rfl, by rw [run_neq_struct, key]; rfl⟩
theorem q58 (w : World) (op : BinOp) (x y : Operand) (xs ys : List Int) (h1 : xs.length = 2) (h2 : ys.length = 2) :
    (eqGuard op 58 x y (.agg (intCells xs)) (.agg (intCells ys))).run Try.prog w = .ok () w ∧
    (binOp .eql 58 (.agg (intCells xs)) (.agg (intCells ys))).run Try.prog w = .ok (.bool (xs == ys)) w ∧
    (binOp .neq 58 (.agg (intCells xs)) (.agg (intCells ys))).run Try.prog w = .ok (.bool (!(xs == ys))) w := by
  have hm : Try.prog.eqGuardType Try.prog.depth 58 = false := by kernel_rfl
  match xs, ys, h1, h2 with
  | [a0, a1], [b0, b1], _, _ =>
    have key : (Op.equalIn 10000 58 (.agg (intCells [a0, a1])) (.agg (intCells [b0, b1]))).run Try.prog w = .ok ([a0, a1] == [b0, b1]) w := by
      simp only [intCells, List.map_cons, List.map_nil]
      simp [go_sem, List.cons_beq_cons]
      try grind
    exact ⟨run_eqGuard_agg w op 58 x y _ _ hm, by rw [run_eql_struct, key]; rfl, by rw [run_neq_struct, key]; rfl⟩
theorem q60 (w : World) (op : BinOp) (x y : Operand) (xs ys : List Int) (h1 : xs.length = 4) (h2 : ys.length = 4) :
    (eqGuard op 60 x y (.agg (intCells xs)) (.agg (intCells ys))).run Try.prog w = .ok () w ∧
    (binOp .eql 60 (.agg (intCells xs)) (.agg (intCells ys))).run Try.prog w = .ok (.bool (xs == ys)) w ∧
    (binOp .neq 60 (.agg (intCells xs)) (.agg (intCells ys))).run Try.prog w = .ok (.bool (!(xs == ys))) w := by
  have hm : Try.prog.eqGuardType Try.prog.depth 60 = false := by kernel_rfl
  match xs, ys, h1, h2 with
  | [a0, a1, a2, a3], [b0, b1, b2, b3], _, _ =>
    have key : (Op.equalIn 10000 60 (.agg (intCells [a0, a1, a2, a3])) (.agg (intCells [b0, b1, b2, b3]))).run Try.prog w = .ok ([a0, a1, a2, a3] == [b0, b1, b2, b3]) w := by
      simp only [intCells, List.map_cons, List.map_nil]
      simp [go_sem, List.cons_beq_cons]
      try grind
    exact ⟨run_eqGuard_agg w op 60 x y _ _ hm, by rw [run_eql_struct, key]; rfl, by rw [run_neq_struct, key]; rfl⟩
theorem q140 (w : World) (op : BinOp) (x y : Operand) (xs ys : List Int) (h1 : xs.length = 2) (h2 : ys.length = 2) :
    (eqGuard op 140 x y (.agg (intCells xs)) (.agg (intCells ys))).run Try.prog w = .ok () w ∧
    (binOp .eql 140 (.agg (intCells xs)) (.agg (intCells ys))).run Try.prog w = .ok (.bool (xs == ys)) w ∧
    (binOp .neq 140 (.agg (intCells xs)) (.agg (intCells ys))).run Try.prog w = .ok (.bool (!(xs == ys))) w := by
  have hm : Try.prog.eqGuardType Try.prog.depth 140 = false := by kernel_rfl
  match xs, ys, h1, h2 with
  | [a0, a1], [b0, b1], _, _ =>
    have key : (Op.equalIn 10000 140 (.agg (intCells [a0, a1])) (.agg (intCells [b0, b1]))).run Try.prog w = .ok ([a0, a1] == [b0, b1]) w := by
      simp only [intCells, List.map_cons, List.map_nil]
      simp [go_sem, List.cons_beq_cons]
      try grind
    exact ⟨run_eqGuard_agg w op 140 x y _ _ hm, by rw [run_eql_struct, key]; rfl, by rw [run_neq_struct, key]; rfl⟩
theorem q159 (w : World) (op : BinOp) (x y : Operand) (xs ys : List Int) (h1 : xs.length = 1) (h2 : ys.length = 1) :
    (eqGuard op 159 x y (.agg (intCells xs)) (.agg (intCells ys))).run Try.prog w = .ok () w ∧
    (binOp .eql 159 (.agg (intCells xs)) (.agg (intCells ys))).run Try.prog w = .ok (.bool (xs == ys)) w ∧
    (binOp .neq 159 (.agg (intCells xs)) (.agg (intCells ys))).run Try.prog w = .ok (.bool (!(xs == ys))) w := by
  have hm : Try.prog.eqGuardType Try.prog.depth 159 = false := by kernel_rfl
  match xs, ys, h1, h2 with
  | [a0], [b0], _, _ =>
    have key : (Op.equalIn 10000 159 (.agg (intCells [a0])) (.agg (intCells [b0]))).run Try.prog w = .ok ([a0] == [b0]) w := by
      simp only [intCells, List.map_cons, List.map_nil]
      simp [go_sem, List.cons_beq_cons]
      try grind
    exact ⟨run_eqGuard_agg w op 159 x y _ _ hm, by rw [run_eql_struct, key]; rfl, by rw [run_neq_struct, key]; rfl⟩
def sTab (t : TypeId) : Option (List Bool) :=
  none
theorem qv41 : qTab 41 = some 6 := rfl
theorem qv58 : qTab 58 = some 2 := rfl
theorem qv60 : qTab 60 = some 4 := rfl
theorem qv140 : qTab 140 = some 2 := rfl
theorem qv159 : qTab 159 = some 1 := rfl
noncomputable def ev : Ev := { P := Try.prog, T := tyTab, M := mTab, Q := qTab, S := sTab }
theorem ev_T : ev.T = tyTab := rfl
theorem ev_P : ev.P = Try.prog := rfl
theorem ev_Q : ev.Q = qTab := rfl
theorem ev_M : ev.M = mTab := rfl
theorem ev_S : ev.S = sTab := rfl
theorem evOk : EvOk ev := by
  refine ⟨tyOk, ?_, ?_, ?_, by kernel_rfl⟩
  · intro t name f h v w
    unfold ev mTab at h; dsimp only at h
    by_cases c0 : t = 159 ∧ name = nm0
    · rw [if_pos c0] at h; obtain ⟨rfl, rfl⟩ := c0; cases h; exact m0 v w
    rw [if_neg c0] at h
    by_cases c1 : t = 161 ∧ name = nm1
    · rw [if_pos c1] at h; obtain ⟨rfl, rfl⟩ := c1; cases h; exact m1 v w
    rw [if_neg c1] at h
    cases h
  · intro t n h w op x y xs ys h1 h2
    unfold ev qTab at h; dsimp only at h
    by_cases c41 : t = 41
    · rw [if_pos c41] at h; subst c41; cases h; exact q41 w op x y xs ys h1 h2
    rw [if_neg c41] at h
    by_cases c58 : t = 58
    · rw [if_pos c58] at h; subst c58; cases h; exact q58 w op x y xs ys h1 h2
    rw [if_neg c58] at h
    by_cases c60 : t = 60
    · rw [if_pos c60] at h; subst c60; cases h; exact q60 w op x y xs ys h1 h2
    rw [if_neg c60] at h
    by_cases c140 : t = 140
    · rw [if_pos c140] at h; subst c140; cases h; exact q140 w op x y xs ys h1 h2
    rw [if_neg c140] at h
    by_cases c159 : t = 159
    · rw [if_pos c159] at h; subst c159; cases h; exact q159 w op x y xs ys h1 h2
    rw [if_neg c159] at h
    cases h
  · intro t ks h w op x y us vs h1 h2
    unfold ev sTab at h; dsimp only at h
    cases h
end Go.Proofs.Ytbobgnkohnbonaa

/- The seat's types and functions, for walking the log's ring. -/
import Derived.Test.YtcnamndapofimaaGreatDoorWalk2
import Derived.Test.YtcnamndapofimaaGreatDoorAwJ
import Derived.KernelRfl
import Derived.Test.YtcnamndapofimaaGreatDoorProg
namespace Go.Eng.R
open Go Go.Eng Go.Proofs
/-- Calls that are answered without being walked: errors.As, errors.Is, the awakening. -/
noncomputable def hookR : FuncId → List Value → AH → Option HRes := hookT B.hook [B.eAwake]
noncomputable def C : Ctx := ctxOf Tryz.prog hookR
theorem fn31 : C.fn 31 = some Tryz.f31 := Tryz.func31
theorem fn32 : C.fn 32 = some Tryz.f32 := Tryz.func32
theorem fn33 : C.fn 33 = some Tryz.f33 := Tryz.func33
theorem fn34 : C.fn 34 = some Tryz.f34 := Tryz.func34
theorem fn35 : C.fn 35 = some Tryz.f35 := Tryz.func35
theorem fn36 : C.fn 36 = some Tryz.f36 := Tryz.func36
theorem fn37 : C.fn 37 = some Tryz.f37 := Tryz.func37
theorem fn38 : C.fn 38 = some Tryz.f38 := Tryz.func38
theorem fn39 : C.fn 39 = some Tryz.f39 := Tryz.func39
theorem fn40 : C.fn 40 = some Tryz.f40 := Tryz.func40
theorem fn42 : C.fn 42 = some Tryz.f42 := Tryz.func42
theorem fn45 : C.fn 45 = some Tryz.f45 := Tryz.func45
theorem fn46 : C.fn 46 = some Tryz.f46 := Tryz.func46
theorem fn87 : C.fn 87 = some Tryz.f87 := Tryz.func87
theorem fn88 : C.fn 88 = some Tryz.f88 := Tryz.func88
theorem fn89 : C.fn 89 = some Tryz.f89 := Tryz.func89
theorem fn5 : C.fn 5 = some Tryz.f5 := Tryz.func5
theorem fn7 : C.fn 7 = some Tryz.f7 := Tryz.func7
theorem fn8 : C.fn 8 = some Tryz.f8 := Tryz.func8
noncomputable def t3 : TI := tiOf C 3
@[simp] theorem ti3 : C.ti 3 = some t3 := by kernel_rfl
@[simp] theorem t3_size : t3.size = 1 := by kernel_rfl
@[simp] theorem t3_bytes : t3.bytes = 8 := by kernel_rfl
@[simp] theorem t3_agg : t3.agg = false := by kernel_rfl
@[simp] theorem t3_desc : t3.desc = .int .i64 := by kernel_rfl
@[simp] theorem t3_zero : t3.zero = [.int .i64 0] := by kernel_rfl
noncomputable def t4 : TI := tiOf C 4
@[simp] theorem ti4 : C.ti 4 = some t4 := by kernel_rfl
@[simp] theorem t4_size : t4.size = 1 := by kernel_rfl
@[simp] theorem t4_bytes : t4.bytes = 1 := by kernel_rfl
@[simp] theorem t4_agg : t4.agg = false := by kernel_rfl
@[simp] theorem t4_desc : t4.desc = .bool := by kernel_rfl
@[simp] theorem t4_zero : t4.zero = [.bool false] := by kernel_rfl
noncomputable def t24 : TI := tiOf C 24
@[simp] theorem ti24 : C.ti 24 = some t24 := by kernel_rfl
@[simp] theorem t24_size : t24.size = 1 := by kernel_rfl
@[simp] theorem t24_bytes : t24.bytes = 8 := by kernel_rfl
@[simp] theorem t24_agg : t24.agg = false := by kernel_rfl
@[simp] theorem t24_desc : t24.desc = .int .i64 := by kernel_rfl
@[simp] theorem t24_zero : t24.zero = [.int .i64 0] := by kernel_rfl
noncomputable def t26 : TI := tiOf C 26
@[simp] theorem ti26 : C.ti 26 = some t26 := by kernel_rfl
@[simp] theorem t26_size : t26.size = 1 := by kernel_rfl
@[simp] theorem t26_bytes : t26.bytes = 24 := by kernel_rfl
@[simp] theorem t26_agg : t26.agg = false := by kernel_rfl
@[simp] theorem t26_desc : t26.desc = .slice 3 := by kernel_rfl
@[simp] theorem t26_zero : t26.zero = [.slice none 0 0] := by kernel_rfl
noncomputable def t68 : TI := tiOf C 68
@[simp] theorem ti68 : C.ti 68 = some t68 := by kernel_rfl
@[simp] theorem t68_size : t68.size = 1 := by kernel_rfl
@[simp] theorem t68_bytes : t68.bytes = 24 := by kernel_rfl
@[simp] theorem t68_agg : t68.agg = false := by kernel_rfl
@[simp] theorem t68_desc : t68.desc = .slice 77 := by kernel_rfl
@[simp] theorem t68_zero : t68.zero = [.slice none 0 0] := by kernel_rfl
noncomputable def t69 : TI := tiOf C 69
@[simp] theorem ti69 : C.ti 69 = some t69 := by kernel_rfl
@[simp] theorem t69_size : t69.size = 1 := by kernel_rfl
@[simp] theorem t69_bytes : t69.bytes = 8 := by kernel_rfl
@[simp] theorem t69_agg : t69.agg = false := by kernel_rfl
@[simp] theorem t69_desc : t69.desc = .pointer 173 := by kernel_rfl
@[simp] theorem t69_zero : t69.zero = [.pointer none] := by kernel_rfl
noncomputable def t72 : TI := tiOf C 72
@[simp] theorem ti72 : C.ti 72 = some t72 := by kernel_rfl
@[simp] theorem t72_size : t72.size = 1 := by kernel_rfl
@[simp] theorem t72_bytes : t72.bytes = 8 := by kernel_rfl
@[simp] theorem t72_agg : t72.agg = false := by kernel_rfl
@[simp] theorem t72_desc : t72.desc = .pointer 83 := by kernel_rfl
@[simp] theorem t72_zero : t72.zero = [.pointer none] := by kernel_rfl
noncomputable def t77 : TI := tiOf C 77
@[simp] theorem ti77 : C.ti 77 = some t77 := by kernel_rfl
@[simp] theorem t77_size : t77.size = 2 := by kernel_rfl
@[simp] theorem t77_bytes : t77.bytes = 32 := by kernel_rfl
@[simp] theorem t77_agg : t77.agg = true := by kernel_rfl
@[simp] theorem t77_str : isStr t77.desc = true := by kernel_rfl
@[simp] theorem t77_place0 : t77.places[0]? = some (0, 1) := by kernel_rfl
@[simp] theorem t77_place1 : t77.places[1]? = some (1, 1) := by kernel_rfl
@[simp] theorem t77_zero : t77.zero = [.int .i64 0, .slice none 0 0] := by kernel_rfl
noncomputable def t83 : TI := tiOf C 83
@[simp] theorem ti83 : C.ti 83 = some t83 := by kernel_rfl
@[simp] theorem t83_size : t83.size = 2 := by kernel_rfl
@[simp] theorem t83_bytes : t83.bytes = 32 := by kernel_rfl
@[simp] theorem t83_agg : t83.agg = true := by kernel_rfl
@[simp] theorem t83_str : isStr t83.desc = true := by kernel_rfl
@[simp] theorem t83_place0 : t83.places[0]? = some (0, 1) := by kernel_rfl
@[simp] theorem t83_place1 : t83.places[1]? = some (1, 1) := by kernel_rfl
@[simp] theorem t83_zero : t83.zero = [.int .i64 0, .slice none 0 0] := by kernel_rfl
noncomputable def t85 : TI := tiOf C 85
@[simp] theorem ti85 : C.ti 85 = some t85 := by kernel_rfl
@[simp] theorem t85_size : t85.size = 1 := by kernel_rfl
@[simp] theorem t85_bytes : t85.bytes = 8 := by kernel_rfl
@[simp] theorem t85_agg : t85.agg = false := by kernel_rfl
@[simp] theorem t85_zero : t85.zero = [.nilFunc] := by kernel_rfl
noncomputable def t173 : TI := tiOf C 173
@[simp] theorem ti173 : C.ti 173 = some t173 := by kernel_rfl
@[simp] theorem t173_size : t173.size = 2 := by kernel_rfl
@[simp] theorem t173_bytes : t173.bytes = 32 := by kernel_rfl
@[simp] theorem t173_agg : t173.agg = true := by kernel_rfl
@[simp] theorem t173_str : isStr t173.desc = true := by kernel_rfl
@[simp] theorem t173_place0 : t173.places[0]? = some (0, 1) := by kernel_rfl
@[simp] theorem t173_place1 : t173.places[1]? = some (1, 1) := by kernel_rfl
@[simp] theorem t173_zero : t173.zero = [.slice none 0 0, .int .i64 0] := by kernel_rfl
end Go.Eng.R

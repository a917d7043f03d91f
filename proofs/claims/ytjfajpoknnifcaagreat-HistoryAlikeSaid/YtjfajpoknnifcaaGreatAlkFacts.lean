/- Closed facts on the program's tables. No condition. -/
import Derived.Test.YtjfajpoknnifcaaGreatAwk
import Derived.Test.YtjfajpoknnifcaaGreatNest
namespace Go.Proofs.YtjfajpoknnifcaaGreat
open Go
theorem ag_112 : aggB Tryz.prog 112 = some true := by kernel_rfl
theorem ag_114 : aggB Tryz.prog 114 = some true := by kernel_rfl
theorem ag_148 : aggB Tryz.prog 148 = some true := by kernel_rfl
theorem ag_204 : aggB Tryz.prog 204 = some true := by kernel_rfl
theorem ag_32 : aggB Tryz.prog 32 = some false := by kernel_rfl
theorem ag_34 : aggB Tryz.prog 34 = some true := by kernel_rfl
theorem ag_36 : aggB Tryz.prog 36 = some false := by kernel_rfl
theorem ag_38 : aggB Tryz.prog 38 = some true := by kernel_rfl
theorem ag_4 : aggB Tryz.prog 4 = some false := by kernel_rfl
theorem ag_42 : aggB Tryz.prog 42 = some false := by kernel_rfl
theorem ag_44 : aggB Tryz.prog 44 = some true := by kernel_rfl
theorem ag_5 : aggB Tryz.prog 5 = some false := by kernel_rfl
theorem ag_72 : aggB Tryz.prog 72 = some true := by kernel_rfl
theorem ar_112 : arrB Tryz.prog 112 = some (2, 3) := by kernel_rfl
theorem ar_205 : arrB Tryz.prog 205 = some (2, 204) := by kernel_rfl
theorem bo_4 : boolB Tryz.prog 4 = true := by kernel_rfl
theorem by_112 : bytesB Tryz.prog 112 = some 16 := by kernel_rfl
theorem cl_11 : callB Tryz.prog 11 = true := by kernel_rfl
theorem cl_13 : callB Tryz.prog 13 = true := by kernel_rfl
theorem cl_14 : callB Tryz.prog 14 = true := by kernel_rfl
theorem cl_20 : callB Tryz.prog 20 = true := by kernel_rfl
theorem cl_25 : callB Tryz.prog 25 = true := by kernel_rfl
theorem cl_26 : callB Tryz.prog 26 = true := by kernel_rfl
theorem cl_36 : callB Tryz.prog 36 = true := by kernel_rfl
theorem cl_37 : callB Tryz.prog 37 = true := by kernel_rfl
theorem cl_38 : callB Tryz.prog 38 = true := by kernel_rfl
theorem cl_51 : callB Tryz.prog 51 = true := by kernel_rfl
theorem cl_55 : callB Tryz.prog 55 = true := by kernel_rfl
theorem cl_56 : callB Tryz.prog 56 = true := by kernel_rfl
theorem cl_6 : callB Tryz.prog 6 = true := by kernel_rfl
theorem cl_74 : callB Tryz.prog 74 = true := by kernel_rfl
theorem eg_112 : Tryz.prog.eqGuardType Tryz.prog.depth 112 = false := by kernel_rfl
theorem eg_34 : Tryz.prog.eqGuardType Tryz.prog.depth 34 = false := by kernel_rfl
theorem eg_38 : Tryz.prog.eqGuardType Tryz.prog.depth 38 = false := by kernel_rfl
theorem el_109 : elemB Tryz.prog 109 = some 112 := by kernel_rfl
theorem el_64 : elemB Tryz.prog 64 = some 76 := by kernel_rfl
theorem el_65 : elemB Tryz.prog 65 = some 78 := by kernel_rfl
theorem fd_114_0 : fieldB Tryz.prog 114 0 = some (0, 1) := by kernel_rfl
theorem fd_114_1 : fieldB Tryz.prog 114 1 = some (1, 1) := by kernel_rfl
theorem fd_114_4 : fieldB Tryz.prog 114 4 = some (4, 9) := by kernel_rfl
theorem fd_148_0 : fieldB Tryz.prog 148 0 = some (0, 1) := by kernel_rfl
theorem fd_148_1 : fieldB Tryz.prog 148 1 = some (1, 1) := by kernel_rfl
theorem fd_148_2 : fieldB Tryz.prog 148 2 = some (2, 1) := by kernel_rfl
theorem fd_148_3 : fieldB Tryz.prog 148 3 = some (3, 1) := by kernel_rfl
theorem fd_204_0 : fieldB Tryz.prog 204 0 = some (0, 1) := by kernel_rfl
theorem fd_204_1 : fieldB Tryz.prog 204 1 = some (1, 1) := by kernel_rfl
theorem fd_41_0 : fieldB Tryz.prog 41 0 = some (0, 2) := by kernel_rfl
theorem fd_41_1 : fieldB Tryz.prog 41 1 = some (2, 5) := by kernel_rfl
theorem fd_41_2 : fieldB Tryz.prog 41 2 = some (7, 1) := by kernel_rfl
theorem fd_44_0 : fieldB Tryz.prog 44 0 = some (0, 1) := by kernel_rfl
theorem fd_44_1 : fieldB Tryz.prog 44 1 = some (1, 9) := by kernel_rfl
theorem fd_44_2 : fieldB Tryz.prog 44 2 = some (10, 1) := by kernel_rfl
theorem fd_44_3 : fieldB Tryz.prog 44 3 = some (11, 1) := by kernel_rfl
theorem fd_70_0 : fieldB Tryz.prog 70 0 = some (0, 1) := by kernel_rfl
theorem fd_70_1 : fieldB Tryz.prog 70 1 = some (1, 1) := by kernel_rfl
theorem fd_72_0 : fieldB Tryz.prog 72 0 = some (0, 2) := by kernel_rfl
theorem fd_72_1 : fieldB Tryz.prog 72 1 = some (2, 2) := by kernel_rfl
theorem fd_72_2 : fieldB Tryz.prog 72 2 = some (4, 1) := by kernel_rfl
theorem fd_72_3 : fieldB Tryz.prog 72 3 = some (5, 2) := by kernel_rfl
theorem fd_72_4 : fieldB Tryz.prog 72 4 = some (7, 2) := by kernel_rfl
theorem laidOut : laidOutB Tryz.prog = true := by kernel_rfl
theorem mp_202 : mapB Tryz.prog 202 = some (204, 4) := by kernel_rfl
theorem sz_112 : sizeB Tryz.prog 112 = some 2 := by kernel_rfl
theorem sz_114 : sizeB Tryz.prog 114 = some 13 := by kernel_rfl
theorem sz_148 : sizeB Tryz.prog 148 = some 4 := by kernel_rfl
theorem sz_204 : sizeB Tryz.prog 204 = some 2 := by kernel_rfl
theorem sz_34 : sizeB Tryz.prog 34 = some 2 := by kernel_rfl
theorem sz_38 : sizeB Tryz.prog 38 = some 5 := by kernel_rfl
theorem sz_44 : sizeB Tryz.prog 44 = some 12 := by kernel_rfl
theorem sz_72 : sizeB Tryz.prog 72 = some 9 := by kernel_rfl
theorem tsize : Tryz.prog.types.size = 386 := by kernel_rfl
theorem zr_112 : zeroB Tryz.prog 112 = some (.agg #[.int .i64 0, .int .i64 0]) := by kernel_rfl
theorem zr_114 : zeroB Tryz.prog 114 = some (.agg #[.int .i64 0, .int .i64 0, .bool false, .bool false, .int .u32 0, .int .i64 0, .int .u32 0, .int .i64 0, .int .i64 0, .int .u16 0, .int .u16 0, .int .u16 0, .int .u16 0]) := by kernel_rfl
theorem zr_148 : zeroB Tryz.prog 148 = some (.agg #[.int .i64 0, .int .i64 0, .int .i64 0, .int .i64 0]) := by kernel_rfl
theorem zr_204 : zeroB Tryz.prog 204 = some (.agg #[.int .i64 0, .int .i64 0]) := by kernel_rfl
theorem zr_4 : zeroB Tryz.prog 4 = some (.bool false) := by kernel_rfl
theorem zr_44 : zeroB Tryz.prog 44 = some (.agg #[.int .i64 0, .int .u64 0, .int .u64 0, .int .u32 0, .int .u32 0, .int .u8 0, .int .u16 0, .int .u16 0, .bool false, .slice none 0 0, .int .i64 0, .int .i64 0]) := by kernel_rfl
end Go.Proofs.YtjfajpoknnifcaaGreat

/- Closed facts on the program's tables. No condition. -/
import Derived.Test.YtjfajpoknnifcaaGreatTime
import Derived.Test.YtjfajpoknnifcaaGreatSort
namespace Go.Proofs.YtjfajpoknnifcaaGreat
open Go
theorem ag_48 : aggB Tryz.prog 48 = some true := by kernel_rfl
theorem by_46 : bytesB Tryz.prog 46 = some 128 := by kernel_rfl
theorem el_22 : elemB Tryz.prog 22 = some 48 := by kernel_rfl
theorem fd_46_2 : fieldB Tryz.prog 46 2 = some (2, 1) := by kernel_rfl
theorem fd_46_4 : fieldB Tryz.prog 46 4 = some (4, 1) := by kernel_rfl
theorem fd_48_0 : fieldB Tryz.prog 48 0 = some (0, 1) := by kernel_rfl
theorem fd_48_1 : fieldB Tryz.prog 48 1 = some (1, 1) := by kernel_rfl
theorem fd_48_2 : fieldB Tryz.prog 48 2 = some (2, 1) := by kernel_rfl
theorem sz_48 : sizeB Tryz.prog 48 = some 3 := by kernel_rfl
theorem zr_46 : zeroB Tryz.prog 46 = some (.agg #[.int .i64 0, .int .i64 0, .int .i64 0, .int .i64 0, .int .i64 0, .int .i64 0, .int .u64 0, .int .u64 0, .int .u32 0, .int .u32 0, .int .u8 0, .int .u16 0, .int .u16 0, .bool false, .slice none 0 0, .int .i64 0, .int .i64 0]) := by kernel_rfl
theorem zr_48 : zeroB Tryz.prog 48 = some (.agg #[.int .i64 0, .int .i64 0, .int .i64 0]) := by kernel_rfl
end Go.Proofs.YtjfajpoknnifcaaGreat

/- Closed facts on the program's tables. No condition. -/
import Derived.Test.YtjfajpoknnifcaaGreatHist
import Derived.Test.YtjfajpoknnifcaaGreatAwk
import Derived.Test.YtjfajpoknnifcaaGreatGap
import Derived.Test.YtjfajpoknnifcaaGreatDec
namespace Go.Proofs.YtjfajpoknnifcaaGreat
open Go
theorem ag_5 : aggB Tryz.prog 5 = some false := by kernel_rfl
theorem bo_4 : boolB Tryz.prog 4 = true := by kernel_rfl
theorem cl_10 : callB Tryz.prog 10 = true := by kernel_rfl
theorem cl_11 : callB Tryz.prog 11 = true := by kernel_rfl
theorem cl_12 : callB Tryz.prog 12 = true := by kernel_rfl
theorem cl_6 : callB Tryz.prog 6 = true := by kernel_rfl
theorem cl_7 : callB Tryz.prog 7 = true := by kernel_rfl
theorem el_59 : elemB Tryz.prog 59 = some 5 := by kernel_rfl
theorem fd_46_1 : fieldB Tryz.prog 46 1 = some (1, 1) := by kernel_rfl
theorem mp_31 : mapB Tryz.prog 31 = some (3, 4) := by kernel_rfl
theorem sz_5 : sizeB Tryz.prog 5 = some 1 := by kernel_rfl
theorem zr_4 : zeroB Tryz.prog 4 = some (.bool false) := by kernel_rfl
end Go.Proofs.YtjfajpoknnifcaaGreat

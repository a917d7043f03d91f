/- Closed facts on the program's tables. No condition. -/
import Derived.Test.YtjfajpoknnifcaaGreatStab
import Derived.Test.YtjfajpoknnifcaaGreatAwkFacts
namespace Go.Proofs.YtjfajpoknnifcaaGreat
open Go
theorem ag_46 : aggB Tryz.prog 46 = some true := by kernel_rfl
theorem cl_18 : callB Tryz.prog 18 = true := by kernel_rfl
theorem cl_19 : callB Tryz.prog 19 = true := by kernel_rfl
theorem cl_24 : callB Tryz.prog 24 = true := by kernel_rfl
theorem cl_35 : callB Tryz.prog 35 = true := by kernel_rfl
theorem cl_50 : callB Tryz.prog 50 = true := by kernel_rfl
theorem cl_73 : callB Tryz.prog 73 = true := by kernel_rfl
theorem fd_46_3 : fieldB Tryz.prog 46 3 = some (3, 1) := by kernel_rfl
theorem sz_46 : sizeB Tryz.prog 46 = some 17 := by kernel_rfl
end Go.Proofs.YtjfajpoknnifcaaGreat

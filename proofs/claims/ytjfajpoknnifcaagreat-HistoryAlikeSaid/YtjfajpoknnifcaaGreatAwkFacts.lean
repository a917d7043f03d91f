/- Closed facts on the program's tables. No condition. -/
import Derived.Test.YtjfajpoknnifcaaGreatRest
import Derived.Test.YtjfajpoknnifcaaGreatProg
import Derived.KernelRfl
namespace Go.Proofs.YtjfajpoknnifcaaGreat
open Go
theorem ag_117 : aggB Tryz.prog 117 = some false := by kernel_rfl
theorem ag_120 : aggB Tryz.prog 120 = some false := by kernel_rfl
theorem ag_122 : aggB Tryz.prog 122 = some false := by kernel_rfl
theorem ag_128 : aggB Tryz.prog 128 = some false := by kernel_rfl
theorem ag_154 : aggB Tryz.prog 154 = some false := by kernel_rfl
theorem ag_163 : aggB Tryz.prog 163 = some true := by kernel_rfl
theorem ag_164 : aggB Tryz.prog 164 = some false := by kernel_rfl
theorem ag_173 : aggB Tryz.prog 173 = some false := by kernel_rfl
theorem ag_211 : aggB Tryz.prog 211 = some true := by kernel_rfl
theorem ag_256 : aggB Tryz.prog 256 = some false := by kernel_rfl
theorem ag_3 : aggB Tryz.prog 3 = some false := by kernel_rfl
theorem ag_35 : aggB Tryz.prog 35 = some false := by kernel_rfl
theorem ag_49 : aggB Tryz.prog 49 = some false := by kernel_rfl
theorem ag_50 : aggB Tryz.prog 50 = some false := by kernel_rfl
theorem ag_51 : aggB Tryz.prog 51 = some false := by kernel_rfl
theorem ag_53 : aggB Tryz.prog 53 = some true := by kernel_rfl
theorem ag_68 : aggB Tryz.prog 68 = some true := by kernel_rfl
theorem ag_89 : aggB Tryz.prog 89 = some false := by kernel_rfl
theorem ag_93 : aggB Tryz.prog 93 = some false := by kernel_rfl
theorem ar_155 : arrB Tryz.prog 155 = some (2, 154) := by kernel_rfl
theorem by_100 : bytesB Tryz.prog 100 = some 8 := by kernel_rfl
theorem by_120 : bytesB Tryz.prog 120 = some 8 := by kernel_rfl
theorem by_215 : bytesB Tryz.prog 215 = some 24 := by kernel_rfl
theorem by_3 : bytesB Tryz.prog 3 = some 8 := by kernel_rfl
theorem cl_113 : callB Tryz.prog 113 = true := by kernel_rfl
theorem cl_114 : callB Tryz.prog 114 = true := by kernel_rfl
theorem cl_136 : callB Tryz.prog 136 = true := by kernel_rfl
theorem cl_138 : callB Tryz.prog 138 = true := by kernel_rfl
theorem cl_15 : callB Tryz.prog 15 = true := by kernel_rfl
theorem cl_16 : callB Tryz.prog 16 = true := by kernel_rfl
theorem cl_168 : callB Tryz.prog 168 = true := by kernel_rfl
theorem cl_169 : callB Tryz.prog 169 = true := by kernel_rfl
theorem cl_17 : callB Tryz.prog 17 = true := by kernel_rfl
theorem cl_179 : callB Tryz.prog 179 = true := by kernel_rfl
theorem cl_188 : callB Tryz.prog 188 = true := by kernel_rfl
theorem cl_21 : callB Tryz.prog 21 = true := by kernel_rfl
theorem cl_22 : callB Tryz.prog 22 = true := by kernel_rfl
theorem cl_23 : callB Tryz.prog 23 = true := by kernel_rfl
theorem cl_27 : callB Tryz.prog 27 = true := by kernel_rfl
theorem cl_28 : callB Tryz.prog 28 = true := by kernel_rfl
theorem cl_29 : callB Tryz.prog 29 = true := by kernel_rfl
theorem cl_30 : callB Tryz.prog 30 = true := by kernel_rfl
theorem cl_31 : callB Tryz.prog 31 = true := by kernel_rfl
theorem cl_32 : callB Tryz.prog 32 = true := by kernel_rfl
theorem cl_34 : callB Tryz.prog 34 = true := by kernel_rfl
theorem cl_39 : callB Tryz.prog 39 = true := by kernel_rfl
theorem cl_40 : callB Tryz.prog 40 = true := by kernel_rfl
theorem cl_41 : callB Tryz.prog 41 = true := by kernel_rfl
theorem cl_42 : callB Tryz.prog 42 = true := by kernel_rfl
theorem cl_43 : callB Tryz.prog 43 = true := by kernel_rfl
theorem cl_44 : callB Tryz.prog 44 = true := by kernel_rfl
theorem cl_45 : callB Tryz.prog 45 = true := by kernel_rfl
theorem cl_52 : callB Tryz.prog 52 = true := by kernel_rfl
theorem cl_53 : callB Tryz.prog 53 = true := by kernel_rfl
theorem cl_54 : callB Tryz.prog 54 = true := by kernel_rfl
theorem cl_57 : callB Tryz.prog 57 = true := by kernel_rfl
theorem cl_58 : callB Tryz.prog 58 = true := by kernel_rfl
theorem cl_59 : callB Tryz.prog 59 = true := by kernel_rfl
theorem cl_60 : callB Tryz.prog 60 = true := by kernel_rfl
theorem cl_61 : callB Tryz.prog 61 = true := by kernel_rfl
theorem cl_62 : callB Tryz.prog 62 = true := by kernel_rfl
theorem cl_75 : callB Tryz.prog 75 = true := by kernel_rfl
theorem cl_76 : callB Tryz.prog 76 = true := by kernel_rfl
theorem cl_78 : callB Tryz.prog 78 = true := by kernel_rfl
theorem cl_8 : callB Tryz.prog 8 = true := by kernel_rfl
theorem cl_9 : callB Tryz.prog 9 = true := by kernel_rfl
theorem cl_95 : callB Tryz.prog 95 = true := by kernel_rfl
theorem el_117 : elemB Tryz.prog 117 = some 120 := by kernel_rfl
theorem el_164 : elemB Tryz.prog 164 = some 163 := by kernel_rfl
theorem el_169 : elemB Tryz.prog 169 = some 208 := by kernel_rfl
theorem el_173 : elemB Tryz.prog 173 = some 215 := by kernel_rfl
theorem el_228 : elemB Tryz.prog 228 = some 231 := by kernel_rfl
theorem el_24 : elemB Tryz.prog 24 = some 46 := by kernel_rfl
theorem el_256 : elemB Tryz.prog 256 = some 290 := by kernel_rfl
theorem el_49 : elemB Tryz.prog 49 = some 3 := by kernel_rfl
theorem el_50 : elemB Tryz.prog 50 = some 148 := by kernel_rfl
theorem el_51 : elemB Tryz.prog 51 = some 114 := by kernel_rfl
theorem el_93 : elemB Tryz.prog 93 = some 100 := by kernel_rfl
theorem fd_119_0 : fieldB Tryz.prog 119 0 = some (0, 3) := by kernel_rfl
theorem fd_119_1 : fieldB Tryz.prog 119 1 = some (3, 1) := by kernel_rfl
theorem fd_157_0 : fieldB Tryz.prog 157 0 = some (0, 1) := by kernel_rfl
theorem fd_157_1 : fieldB Tryz.prog 157 1 = some (1, 2) := by kernel_rfl
theorem fd_159_0 : fieldB Tryz.prog 159 0 = some (0, 3) := by kernel_rfl
theorem fd_161_1 : fieldB Tryz.prog 161 1 = some (1, 4) := by kernel_rfl
theorem fd_167_0 : fieldB Tryz.prog 167 0 = some (0, 1) := by kernel_rfl
theorem fd_176_0 : fieldB Tryz.prog 176 0 = some (0, 1) := by kernel_rfl
theorem fd_176_1 : fieldB Tryz.prog 176 1 = some (1, 1) := by kernel_rfl
theorem fd_178_0 : fieldB Tryz.prog 178 0 = some (0, 1) := by kernel_rfl
theorem fd_178_1 : fieldB Tryz.prog 178 1 = some (1, 1) := by kernel_rfl
theorem fd_178_2 : fieldB Tryz.prog 178 2 = some (2, 1) := by kernel_rfl
theorem fd_211_0 : fieldB Tryz.prog 211 0 = some (0, 1) := by kernel_rfl
theorem fd_211_1 : fieldB Tryz.prog 211 1 = some (1, 1) := by kernel_rfl
theorem fd_211_2 : fieldB Tryz.prog 211 2 = some (2, 1) := by kernel_rfl
theorem fd_53_0 : fieldB Tryz.prog 53 0 = some (0, 1) := by kernel_rfl
theorem fd_53_1 : fieldB Tryz.prog 53 1 = some (1, 1) := by kernel_rfl
theorem fd_53_2 : fieldB Tryz.prog 53 2 = some (2, 1) := by kernel_rfl
theorem fd_68_0 : fieldB Tryz.prog 68 0 = some (0, 1) := by kernel_rfl
theorem fd_68_1 : fieldB Tryz.prog 68 1 = some (1, 1) := by kernel_rfl
theorem fd_95_4 : fieldB Tryz.prog 95 4 = some (4, 1) := by kernel_rfl
theorem ik_146 : intB Tryz.prog 146 = some .u64 := by kernel_rfl
theorem ik_3 : intB Tryz.prog 3 = some .i64 := by kernel_rfl
theorem ik_32 : intB Tryz.prog 32 = some .u64 := by kernel_rfl
theorem ik_35 : intB Tryz.prog 35 = some .u32 := by kernel_rfl
theorem ik_5 : intB Tryz.prog 5 = some .u8 := by kernel_rfl
theorem mixed : Tryz.prog.follows .mixedOrders = true := by kernel_rfl
theorem pt_120 : ptrB Tryz.prog 120 = true := by kernel_rfl
theorem pt_122 : ptrB Tryz.prog 122 = true := by kernel_rfl
theorem pt_154 : ptrB Tryz.prog 154 = true := by kernel_rfl
theorem pt_293 : ptrB Tryz.prog 293 = true := by kernel_rfl
theorem pt_89 : ptrB Tryz.prog 89 = true := by kernel_rfl
theorem st_9 : strB Tryz.prog 9 = true := by kernel_rfl
theorem sz_100 : sizeB Tryz.prog 100 = some 1 := by kernel_rfl
theorem sz_117 : sizeB Tryz.prog 117 = some 1 := by kernel_rfl
theorem sz_120 : sizeB Tryz.prog 120 = some 1 := by kernel_rfl
theorem sz_154 : sizeB Tryz.prog 154 = some 1 := by kernel_rfl
theorem sz_163 : sizeB Tryz.prog 163 = some 3 := by kernel_rfl
theorem sz_173 : sizeB Tryz.prog 173 = some 1 := by kernel_rfl
theorem sz_211 : sizeB Tryz.prog 211 = some 3 := by kernel_rfl
theorem sz_215 : sizeB Tryz.prog 215 = some 3 := by kernel_rfl
theorem sz_3 : sizeB Tryz.prog 3 = some 1 := by kernel_rfl
theorem sz_53 : sizeB Tryz.prog 53 = some 3 := by kernel_rfl
theorem sz_68 : sizeB Tryz.prog 68 = some 2 := by kernel_rfl
theorem sz_93 : sizeB Tryz.prog 93 = some 1 := by kernel_rfl
theorem zr_100 : zeroB Tryz.prog 100 = some (.pointer none) := by kernel_rfl
theorem zr_120 : zeroB Tryz.prog 120 = some (.pointer none) := by kernel_rfl
theorem zr_163 : zeroB Tryz.prog 163 = some (.agg #[.int .i64 0, .int .i64 0, .int .i64 0]) := by kernel_rfl
theorem zr_211 : zeroB Tryz.prog 211 = some (.agg #[.slice none 0 0, .int .i64 0, .int .i64 0]) := by kernel_rfl
theorem zr_215 : zeroB Tryz.prog 215 = some (.agg #[.int .i64 0, .int .i64 0, .int .i64 0]) := by kernel_rfl
theorem zr_256 : zeroB Tryz.prog 256 = some (.slice none 0 0) := by kernel_rfl
theorem zr_3 : zeroB Tryz.prog 3 = some (.int .i64 0) := by kernel_rfl
theorem zr_68 : zeroB Tryz.prog 68 = some (.agg #[.int .u32 0, .int .i64 0]) := by kernel_rfl
end Go.Proofs.YtjfajpoknnifcaaGreat

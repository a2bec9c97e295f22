/- The functions of the table stand for the program's. Printed by program. -/
import Derived.Test.YtgnpkjfaekimcaaDoorFns
import Derived.Test.YtgnpkjfaekimcaaDoorAvJD
import Derived.Test.YtgnpkjfaekimcaaDoorRows
import Derived.KernelRfl
set_option linter.unusedVariables false
set_option linter.unusedSimpArgs false
set_option linter.unusedSectionVars false
namespace Go.Av
open Go.Proofs
theorem pf2_is : cFunc Tryd.prog 2 [] = some pf2.era := by kernel_rfl
theorem pf3_is : cFunc Tryd.prog 3 [0, 1, 4, 5, 6, 7, 8, 9, 11, 12, 13, 15, 23, 42, 55, 87] = some pf3.era := by kernel_rfl
theorem pf4_is : cFunc Tryd.prog 4 [0, 1, 2, 6, 7, 8, 9, 10, 12, 14, 16, 71] = some pf4.era := by kernel_rfl
theorem pf5_is : cFunc Tryd.prog 5 [0, 1, 2, 6, 7, 8, 9, 10, 11, 12, 14, 16, 17, 19, 21, 28, 52, 66] = some pf5.era := by kernel_rfl
theorem pf6_is : cFunc Tryd.prog 6 [0, 1, 4, 5, 6, 7, 8, 10, 12, 19, 20, 27, 34, 41, 48, 59, 66, 73, 80] = some pf6.era := by kernel_rfl
theorem pf7_is : cFunc Tryd.prog 7 [0, 1, 4, 5, 6, 7, 8, 9, 11, 29, 42] = some pf7.era := by kernel_rfl
theorem pf8_is : cFunc Tryd.prog 8 [0, 1, 4, 5, 7, 9, 11, 13, 15, 18] = some pf8.era := by kernel_rfl
theorem pf9_is : cFunc Tryd.prog 9 [0, 1, 2, 4] = some pf9.era := by kernel_rfl
theorem pf10_is : cFunc Tryd.prog 10 [0, 1, 4, 5, 10] = some pf10.era := by kernel_rfl
theorem pf11_is : cFunc Tryd.prog 11 [0, 1, 2, 6] = some pf11.era := by kernel_rfl
theorem pf12_is : cFunc Tryd.prog 12 [0, 1, 2, 4, 5, 6, 7, 9, 11, 13, 14, 15, 16, 25, 36, 55, 56, 57, 58, 69, 70, 71, 72, 96, 100, 111, 120] = some pf12.era := by kernel_rfl
theorem pf13_is : cFunc Tryd.prog 13 [0, 2, 3, 4, 5, 6, 7, 11, 19] = some pf13.era := by kernel_rfl
theorem pf14_is : cFunc Tryd.prog 14 [0, 1, 2, 4, 5, 6, 7, 8, 9, 10, 11, 12, 13, 14, 15, 16, 17, 18, 19, 20, 29, 40, 44, 48, 74, 92, 103, 117, 133, 152, 162, 167, 182] = some pf14.era := by kernel_rfl
theorem pf15_is : cFunc Tryd.prog 15 [0, 2, 3, 4] = some pf15.era := by kernel_rfl
theorem pf16_is : cFunc Tryd.prog 16 [0, 1, 3, 4, 5, 6, 17, 29] = some pf16.era := by kernel_rfl
theorem pf17_is : cFunc Tryd.prog 17 [0, 1, 4, 5, 6, 9, 10, 15, 20, 25, 30] = some pf17.era := by kernel_rfl
theorem pf18_is : cFunc Tryd.prog 18 [0, 2, 3, 4, 5, 6, 7, 11, 19] = some pf18.era := by kernel_rfl
theorem pf19_is : cFunc Tryd.prog 19 [0, 2, 3, 5, 6, 7, 8, 9, 10, 11, 12, 19, 20, 21, 37, 44, 47, 56] = some pf19.era := by kernel_rfl
theorem pf20_is : cFunc Tryd.prog 20 [0, 2, 3, 4, 6, 10, 11, 12, 32] = some pf20.era := by kernel_rfl
theorem pf21_is : cFunc Tryd.prog 21 [0, 1, 4, 5, 6, 7, 8, 9, 11, 12, 41, 62, 63, 64, 65, 66, 74] = some pf21.era := by kernel_rfl
theorem pf22_is : cFunc Tryd.prog 22 [0, 1, 4, 5, 6, 7, 8, 9, 17, 28, 39, 47, 56, 58] = some pf22.era := by kernel_rfl
theorem pf23_is : cFunc Tryd.prog 23 [0, 1, 4, 5, 9, 18] = some pf23.era := by kernel_rfl
theorem pf24_is : cFunc Tryd.prog 24 [0, 2, 3, 4, 8] = some pf24.era := by kernel_rfl
theorem pf25_is : cFunc Tryd.prog 25 [0, 1, 2, 3, 5, 6, 8, 9, 14, 22, 23, 30, 31, 38, 39, 55, 56, 63, 64, 69, 70, 75, 76, 91] = some pf25.era := by kernel_rfl
theorem pf26_is : cFunc Tryd.prog 26 [0, 1, 2, 4, 6, 7, 8, 9, 10, 11, 12, 13, 14, 21, 23, 31, 47, 48, 60, 70, 83, 97, 113, 117, 124, 131, 141, 151, 158, 161] = some pf26.era := by kernel_rfl
theorem pf27_is : cFunc Tryd.prog 27 [0, 1, 2, 4, 5, 7, 12] = some pf27.era := by kernel_rfl
theorem pf28_is : cFunc Tryd.prog 28 [0, 1, 4, 5, 10, 14, 25] = some pf28.era := by kernel_rfl
theorem pf29_is : cFunc Tryd.prog 29 [0, 2, 3, 4, 6] = some pf29.era := by kernel_rfl
theorem pf30_is : cFunc Tryd.prog 30 [0, 1, 4, 5, 6, 7, 15, 25, 30, 45, 51] = some pf30.era := by kernel_rfl
theorem pf31_is : cFunc Tryd.prog 31 [0, 2, 4] = some (cloneA 5 40 [(.i .i64 0), (.i .i64 0), (.i .i64 0), (.i .i64 0), (.i .i64 0)]) := by kernel_rfl
theorem pf32_is : cFunc Tryd.prog 32 [0, 1, 2, 3, 7] = some pf32.era := by kernel_rfl
theorem pf33_is : cFunc Tryd.prog 33 [0, 1, 2, 4, 5, 9, 21] = some pf33.era := by kernel_rfl
theorem pf34_is : cFunc Tryd.prog 34 [0, 1, 2, 4, 5, 8, 14] = some pf34.era := by kernel_rfl
theorem pf35_is : cFunc Tryd.prog 35 [0, 1, 4, 5] = some pf35.era := by kernel_rfl
theorem pf36_is : cFunc Tryd.prog 36 [0, 1, 2, 4, 6, 7, 8, 9, 10, 11, 12, 13, 14, 15, 20, 29, 39, 40, 41, 42, 55, 64, 68] = some pf36.era := by kernel_rfl
theorem pf37_is : cFunc Tryd.prog 37 [0, 1, 2, 4, 5, 7, 12] = some pf37.era := by kernel_rfl
theorem pf38_is : cFunc Tryd.prog 38 [0, 1, 4] = some pf38.era := by kernel_rfl
theorem pf39_is : cFunc Tryd.prog 39 [0, 1, 2, 6, 7, 8, 18, 27, 33] = some pf39.era := by kernel_rfl
theorem pf40_is : cFunc Tryd.prog 40 [0, 1, 2, 3, 4, 5, 6, 7, 8, 9, 16, 41, 50, 64, 73, 88, 100, 113] = some pf40.era := by kernel_rfl
theorem pf41_is : cFunc Tryd.prog 41 [0, 2] = some pf41.era := by kernel_rfl
theorem pf42_is : cFunc Tryd.prog 42 [0, 2, 3, 4, 18] = some pf42.era := by kernel_rfl
theorem pf43_is : cFunc Tryd.prog 43 [0, 1, 3, 4, 6, 7, 11, 13] = some pf43.era := by kernel_rfl
theorem pf44_is : cFunc Tryd.prog 44 [0, 1, 2, 6, 7, 8, 9, 10, 15, 16, 32, 45, 62, 69, 80, 94] = some pf44.era := by kernel_rfl
theorem pf45_is : cFunc Tryd.prog 45 [0, 2] = some pf45.era := by kernel_rfl
theorem pf46_is : cFunc Tryd.prog 46 [0, 2, 3, 4, 5, 7] = some pf46.era := by kernel_rfl
theorem pf47_is : cFunc Tryd.prog 47 [0, 2, 3, 4, 5, 6] = some pf47.era := by kernel_rfl
theorem pf48_is : cFunc Tryd.prog 48 [0, 2] = some pf48.era := by kernel_rfl
theorem pf49_is : cFunc Tryd.prog 49 [0, 1, 2, 4, 5, 10, 20] = some pf49.era := by kernel_rfl
theorem pf50_is : cFunc Tryd.prog 50 [0, 2] = some pf50.era := by kernel_rfl
theorem pf51_is : cFunc Tryd.prog 51 [0, 1, 3, 4, 5, 11, 12, 14, 16, 18, 20, 35, 39, 48, 57, 60] = some pf51.era := by kernel_rfl
theorem pf52_is : cFunc Tryd.prog 52 [0, 1, 3, 4, 6, 7, 15, 19, 27, 30, 36] = some pf52.era := by kernel_rfl
theorem pf53_is : cFunc Tryd.prog 53 [0, 2, 4] = some (cloneA 1 8 [(.i .i64 0)]) := by kernel_rfl
theorem pf54_is : cFunc Tryd.prog 54 [0, 1, 2, 4, 6, 7, 8, 9, 11, 12, 18, 22, 31, 34, 43, 48, 57] = some pf54.era := by kernel_rfl
theorem pf55_is : cFunc Tryd.prog 55 [0, 2, 3, 5, 6, 8, 9, 10, 11, 12, 20, 25, 26, 27, 28] = some pf55.era := by kernel_rfl
theorem pf56_is : cFunc Tryd.prog 56 [0, 1, 4, 5, 7, 8, 9, 16] = some pf56.era := by kernel_rfl
theorem pf57_is : cFunc Tryd.prog 57 [0, 1, 4, 5, 10, 12, 13, 14, 24] = some pf57.era := by kernel_rfl
theorem pf58_is : cFunc Tryd.prog 58 [0, 2, 4] = some pf58.era := by kernel_rfl
theorem pf59_is : cFunc Tryd.prog 59 [0, 1, 2, 4, 5, 11, 20] = some pf59.era := by kernel_rfl
theorem pf60_is : cFunc Tryd.prog 60 [0, 2] = some pf60.era := by kernel_rfl
theorem pf61_is : cFunc Tryd.prog 61 [0, 2] = some pf61.era := by kernel_rfl
theorem pf62_is : cFunc Tryd.prog 62 [0, 1, 4, 11] = some pf62.era := by kernel_rfl
theorem pf63_is : cFunc Tryd.prog 63 [0, 2] = some pf63.era := by kernel_rfl
theorem pf64_is : cFunc Tryd.prog 64 [0, 1, 4, 5, 6, 9, 10, 15, 20, 25, 30] = some pf64.era := by kernel_rfl
theorem pf65_is : cFunc Tryd.prog 65 [0, 1, 2, 5, 6, 7, 8, 9, 13, 19, 24] = some pf65.era := by kernel_rfl
theorem pf66_is : cFunc Tryd.prog 66 [0, 1, 2, 6, 7, 8, 9, 11, 12, 15, 19, 23, 25, 27, 64] = some pf66.era := by kernel_rfl
theorem pf67_is : cFunc Tryd.prog 67 [0, 1, 4, 6, 16] = some pf67.era := by kernel_rfl
theorem pf68_is : cFunc Tryd.prog 68 [0, 2, 4] = some (cloneA 2 24 [(.s []), (.i .i64 0)]) := by kernel_rfl
theorem pf69_is : cFunc Tryd.prog 69 [0, 1, 4, 5, 6, 7, 9, 11, 17, 23, 34] = some pf69.era := by kernel_rfl
theorem pf70_is : cFunc Tryd.prog 70 [0, 1, 2, 6] = some pf70.era := by kernel_rfl
theorem pf71_is : cFunc Tryd.prog 71 [0, 2, 4] = some pf71.era := by kernel_rfl
theorem pf72_is : cFunc Tryd.prog 72 [0, 2, 3] = some pf72.era := by kernel_rfl
theorem pf73_is : cFunc Tryd.prog 73 [0, 1, 4, 5, 6, 7, 8, 9, 10, 11, 12, 13, 14, 15, 16, 20, 99, 139, 161] = some pf73.era := by kernel_rfl
theorem pf74_is : cFunc Tryd.prog 74 [0, 1, 2, 3, 4, 10, 11, 12, 13, 14, 15, 16, 17, 18, 28, 30, 34, 46, 68, 89, 94] = some pf74.era := by kernel_rfl
theorem pf75_is : cFunc Tryd.prog 75 [0, 2] = some pf75.era := by kernel_rfl
theorem pf76_is : cFunc Tryd.prog 76 [0, 2, 4, 8, 14] = some pf76.era := by kernel_rfl
theorem pf77_is : cFunc Tryd.prog 77 [0, 2, 3] = some pf77.era := by kernel_rfl
theorem pf78_is : cFunc Tryd.prog 78 [0, 2] = some pf78.era := by kernel_rfl
theorem pf79_is : cFunc Tryd.prog 79 [0, 2] = some pf79.era := by kernel_rfl
theorem pf80_is : cFunc Tryd.prog 80 [0, 2, 4] = some pf80.era := by kernel_rfl
theorem pf81_is : cFunc Tryd.prog 81 [0, 2, 4] = some pf81.era := by kernel_rfl
theorem pf104_is : cFunc Tryd.prog 104 [] = some pf104.era := by kernel_rfl
def pfsA : Nat → Option AFunc
  | 2 => some pf2.era
  | 3 => some pf3.era
  | 4 => some pf4.era
  | 5 => some pf5.era
  | 6 => some pf6.era
  | 7 => some pf7.era
  | 8 => some pf8.era
  | 9 => some pf9.era
  | 10 => some pf10.era
  | 11 => some pf11.era
  | 12 => some pf12.era
  | 13 => some pf13.era
  | 14 => some pf14.era
  | 15 => some pf15.era
  | 16 => some pf16.era
  | 17 => some pf17.era
  | 18 => some pf18.era
  | 19 => some pf19.era
  | 20 => some pf20.era
  | 21 => some pf21.era
  | 22 => some pf22.era
  | 23 => some pf23.era
  | 24 => some pf24.era
  | 25 => some pf25.era
  | 26 => some pf26.era
  | 27 => some pf27.era
  | 28 => some pf28.era
  | 29 => some pf29.era
  | 30 => some pf30.era
  | 31 => some (cloneA 5 40 [(.i .i64 0), (.i .i64 0), (.i .i64 0), (.i .i64 0), (.i .i64 0)])
  | 32 => some pf32.era
  | 33 => some pf33.era
  | 34 => some pf34.era
  | 35 => some pf35.era
  | 36 => some pf36.era
  | 37 => some pf37.era
  | 38 => some pf38.era
  | 39 => some pf39.era
  | 40 => some pf40.era
  | 41 => some pf41.era
  | 42 => some pf42.era
  | 43 => some pf43.era
  | 44 => some pf44.era
  | 45 => some pf45.era
  | 46 => some pf46.era
  | 47 => some pf47.era
  | 48 => some pf48.era
  | 49 => some pf49.era
  | 50 => some pf50.era
  | 51 => some pf51.era
  | 52 => some pf52.era
  | 53 => some (cloneA 1 8 [(.i .i64 0)])
  | 54 => some pf54.era
  | 55 => some pf55.era
  | 56 => some pf56.era
  | 57 => some pf57.era
  | 58 => some pf58.era
  | 59 => some pf59.era
  | 60 => some pf60.era
  | 61 => some pf61.era
  | 62 => some pf62.era
  | 63 => some pf63.era
  | 64 => some pf64.era
  | 65 => some pf65.era
  | 66 => some pf66.era
  | 67 => some pf67.era
  | 68 => some (cloneA 2 24 [(.s []), (.i .i64 0)])
  | 69 => some pf69.era
  | 70 => some pf70.era
  | 71 => some pf71.era
  | 72 => some pf72.era
  | 73 => some pf73.era
  | 74 => some pf74.era
  | 75 => some pf75.era
  | 76 => some pf76.era
  | 77 => some pf77.era
  | 78 => some pf78.era
  | 79 => some pf79.era
  | 80 => some pf80.era
  | 81 => some pf81.era
  | 104 => some pf104.era
  | _ => none
theorem pfsA_ok : FnsOk Tryd.prog pfsA := by
  intro f F h
  unfold pfsA at h
  split at h
  · injection h with h; subst h; exact ⟨_, pf2_is⟩
  · injection h with h; subst h; exact ⟨_, pf3_is⟩
  · injection h with h; subst h; exact ⟨_, pf4_is⟩
  · injection h with h; subst h; exact ⟨_, pf5_is⟩
  · injection h with h; subst h; exact ⟨_, pf6_is⟩
  · injection h with h; subst h; exact ⟨_, pf7_is⟩
  · injection h with h; subst h; exact ⟨_, pf8_is⟩
  · injection h with h; subst h; exact ⟨_, pf9_is⟩
  · injection h with h; subst h; exact ⟨_, pf10_is⟩
  · injection h with h; subst h; exact ⟨_, pf11_is⟩
  · injection h with h; subst h; exact ⟨_, pf12_is⟩
  · injection h with h; subst h; exact ⟨_, pf13_is⟩
  · injection h with h; subst h; exact ⟨_, pf14_is⟩
  · injection h with h; subst h; exact ⟨_, pf15_is⟩
  · injection h with h; subst h; exact ⟨_, pf16_is⟩
  · injection h with h; subst h; exact ⟨_, pf17_is⟩
  · injection h with h; subst h; exact ⟨_, pf18_is⟩
  · injection h with h; subst h; exact ⟨_, pf19_is⟩
  · injection h with h; subst h; exact ⟨_, pf20_is⟩
  · injection h with h; subst h; exact ⟨_, pf21_is⟩
  · injection h with h; subst h; exact ⟨_, pf22_is⟩
  · injection h with h; subst h; exact ⟨_, pf23_is⟩
  · injection h with h; subst h; exact ⟨_, pf24_is⟩
  · injection h with h; subst h; exact ⟨_, pf25_is⟩
  · injection h with h; subst h; exact ⟨_, pf26_is⟩
  · injection h with h; subst h; exact ⟨_, pf27_is⟩
  · injection h with h; subst h; exact ⟨_, pf28_is⟩
  · injection h with h; subst h; exact ⟨_, pf29_is⟩
  · injection h with h; subst h; exact ⟨_, pf30_is⟩
  · injection h with h; subst h; exact ⟨_, pf31_is⟩
  · injection h with h; subst h; exact ⟨_, pf32_is⟩
  · injection h with h; subst h; exact ⟨_, pf33_is⟩
  · injection h with h; subst h; exact ⟨_, pf34_is⟩
  · injection h with h; subst h; exact ⟨_, pf35_is⟩
  · injection h with h; subst h; exact ⟨_, pf36_is⟩
  · injection h with h; subst h; exact ⟨_, pf37_is⟩
  · injection h with h; subst h; exact ⟨_, pf38_is⟩
  · injection h with h; subst h; exact ⟨_, pf39_is⟩
  · injection h with h; subst h; exact ⟨_, pf40_is⟩
  · injection h with h; subst h; exact ⟨_, pf41_is⟩
  · injection h with h; subst h; exact ⟨_, pf42_is⟩
  · injection h with h; subst h; exact ⟨_, pf43_is⟩
  · injection h with h; subst h; exact ⟨_, pf44_is⟩
  · injection h with h; subst h; exact ⟨_, pf45_is⟩
  · injection h with h; subst h; exact ⟨_, pf46_is⟩
  · injection h with h; subst h; exact ⟨_, pf47_is⟩
  · injection h with h; subst h; exact ⟨_, pf48_is⟩
  · injection h with h; subst h; exact ⟨_, pf49_is⟩
  · injection h with h; subst h; exact ⟨_, pf50_is⟩
  · injection h with h; subst h; exact ⟨_, pf51_is⟩
  · injection h with h; subst h; exact ⟨_, pf52_is⟩
  · injection h with h; subst h; exact ⟨_, pf53_is⟩
  · injection h with h; subst h; exact ⟨_, pf54_is⟩
  · injection h with h; subst h; exact ⟨_, pf55_is⟩
  · injection h with h; subst h; exact ⟨_, pf56_is⟩
  · injection h with h; subst h; exact ⟨_, pf57_is⟩
  · injection h with h; subst h; exact ⟨_, pf58_is⟩
  · injection h with h; subst h; exact ⟨_, pf59_is⟩
  · injection h with h; subst h; exact ⟨_, pf60_is⟩
  · injection h with h; subst h; exact ⟨_, pf61_is⟩
  · injection h with h; subst h; exact ⟨_, pf62_is⟩
  · injection h with h; subst h; exact ⟨_, pf63_is⟩
  · injection h with h; subst h; exact ⟨_, pf64_is⟩
  · injection h with h; subst h; exact ⟨_, pf65_is⟩
  · injection h with h; subst h; exact ⟨_, pf66_is⟩
  · injection h with h; subst h; exact ⟨_, pf67_is⟩
  · injection h with h; subst h; exact ⟨_, pf68_is⟩
  · injection h with h; subst h; exact ⟨_, pf69_is⟩
  · injection h with h; subst h; exact ⟨_, pf70_is⟩
  · injection h with h; subst h; exact ⟨_, pf71_is⟩
  · injection h with h; subst h; exact ⟨_, pf72_is⟩
  · injection h with h; subst h; exact ⟨_, pf73_is⟩
  · injection h with h; subst h; exact ⟨_, pf74_is⟩
  · injection h with h; subst h; exact ⟨_, pf75_is⟩
  · injection h with h; subst h; exact ⟨_, pf76_is⟩
  · injection h with h; subst h; exact ⟨_, pf77_is⟩
  · injection h with h; subst h; exact ⟨_, pf78_is⟩
  · injection h with h; subst h; exact ⟨_, pf79_is⟩
  · injection h with h; subst h; exact ⟨_, pf80_is⟩
  · injection h with h; subst h; exact ⟨_, pf81_is⟩
  · injection h with h; subst h; exact ⟨_, pf104_is⟩
  · cases h
theorem pfsA_st : ∀ f F, pfs f = some F → ∃ A, pfsA f = some A ∧ Stands F A := by
  intro f F h
  unfold pfs at h
  split at h
  · injection h with h; subst h; exact ⟨_, rfl, stands_era _⟩
  · injection h with h; subst h; exact ⟨_, rfl, stands_era _⟩
  · injection h with h; subst h; exact ⟨_, rfl, stands_era _⟩
  · injection h with h; subst h; exact ⟨_, rfl, stands_era _⟩
  · injection h with h; subst h; exact ⟨_, rfl, stands_era _⟩
  · injection h with h; subst h; exact ⟨_, rfl, stands_era _⟩
  · injection h with h; subst h; exact ⟨_, rfl, stands_era _⟩
  · injection h with h; subst h; exact ⟨_, rfl, stands_era _⟩
  · injection h with h; subst h; exact ⟨_, rfl, stands_era _⟩
  · injection h with h; subst h; exact ⟨_, rfl, stands_era _⟩
  · injection h with h; subst h; exact ⟨_, rfl, stands_era _⟩
  · injection h with h; subst h; exact ⟨_, rfl, stands_era _⟩
  · injection h with h; subst h; exact ⟨_, rfl, stands_era _⟩
  · injection h with h; subst h; exact ⟨_, rfl, stands_era _⟩
  · injection h with h; subst h; exact ⟨_, rfl, stands_era _⟩
  · injection h with h; subst h; exact ⟨_, rfl, stands_era _⟩
  · injection h with h; subst h; exact ⟨_, rfl, stands_era _⟩
  · injection h with h; subst h; exact ⟨_, rfl, stands_era _⟩
  · injection h with h; subst h; exact ⟨_, rfl, stands_era _⟩
  · injection h with h; subst h; exact ⟨_, rfl, stands_era _⟩
  · injection h with h; subst h; exact ⟨_, rfl, stands_era _⟩
  · injection h with h; subst h; exact ⟨_, rfl, stands_era _⟩
  · injection h with h; subst h; exact ⟨_, rfl, stands_era _⟩
  · injection h with h; subst h; exact ⟨_, rfl, stands_era _⟩
  · injection h with h; subst h; exact ⟨_, rfl, stands_era _⟩
  · injection h with h; subst h; exact ⟨_, rfl, stands_era _⟩
  · injection h with h; subst h; exact ⟨_, rfl, stands_era _⟩
  · injection h with h; subst h; exact ⟨_, rfl, stands_era _⟩
  · injection h with h; subst h; exact ⟨_, rfl, stands_era _⟩
  · injection h with h; subst h; exact ⟨_, rfl, clone_stands _ _ _⟩
  · injection h with h; subst h; exact ⟨_, rfl, stands_era _⟩
  · injection h with h; subst h; exact ⟨_, rfl, stands_era _⟩
  · injection h with h; subst h; exact ⟨_, rfl, stands_era _⟩
  · injection h with h; subst h; exact ⟨_, rfl, stands_era _⟩
  · injection h with h; subst h; exact ⟨_, rfl, stands_era _⟩
  · injection h with h; subst h; exact ⟨_, rfl, stands_era _⟩
  · injection h with h; subst h; exact ⟨_, rfl, stands_era _⟩
  · injection h with h; subst h; exact ⟨_, rfl, stands_era _⟩
  · injection h with h; subst h; exact ⟨_, rfl, stands_era _⟩
  · injection h with h; subst h; exact ⟨_, rfl, stands_era _⟩
  · injection h with h; subst h; exact ⟨_, rfl, stands_era _⟩
  · injection h with h; subst h; exact ⟨_, rfl, stands_era _⟩
  · injection h with h; subst h; exact ⟨_, rfl, stands_era _⟩
  · injection h with h; subst h; exact ⟨_, rfl, stands_era _⟩
  · injection h with h; subst h; exact ⟨_, rfl, stands_era _⟩
  · injection h with h; subst h; exact ⟨_, rfl, stands_era _⟩
  · injection h with h; subst h; exact ⟨_, rfl, stands_era _⟩
  · injection h with h; subst h; exact ⟨_, rfl, stands_era _⟩
  · injection h with h; subst h; exact ⟨_, rfl, stands_era _⟩
  · injection h with h; subst h; exact ⟨_, rfl, stands_era _⟩
  · injection h with h; subst h; exact ⟨_, rfl, stands_era _⟩
  · injection h with h; subst h; exact ⟨_, rfl, clone_stands _ _ _⟩
  · injection h with h; subst h; exact ⟨_, rfl, stands_era _⟩
  · injection h with h; subst h; exact ⟨_, rfl, stands_era _⟩
  · injection h with h; subst h; exact ⟨_, rfl, stands_era _⟩
  · injection h with h; subst h; exact ⟨_, rfl, stands_era _⟩
  · injection h with h; subst h; exact ⟨_, rfl, stands_era _⟩
  · injection h with h; subst h; exact ⟨_, rfl, stands_era _⟩
  · injection h with h; subst h; exact ⟨_, rfl, stands_era _⟩
  · injection h with h; subst h; exact ⟨_, rfl, stands_era _⟩
  · injection h with h; subst h; exact ⟨_, rfl, stands_era _⟩
  · injection h with h; subst h; exact ⟨_, rfl, stands_era _⟩
  · injection h with h; subst h; exact ⟨_, rfl, stands_era _⟩
  · injection h with h; subst h; exact ⟨_, rfl, stands_era _⟩
  · injection h with h; subst h; exact ⟨_, rfl, stands_era _⟩
  · injection h with h; subst h; exact ⟨_, rfl, stands_era _⟩
  · injection h with h; subst h; exact ⟨_, rfl, clone_stands _ _ _⟩
  · injection h with h; subst h; exact ⟨_, rfl, stands_era _⟩
  · injection h with h; subst h; exact ⟨_, rfl, stands_era _⟩
  · injection h with h; subst h; exact ⟨_, rfl, stands_era _⟩
  · injection h with h; subst h; exact ⟨_, rfl, stands_era _⟩
  · injection h with h; subst h; exact ⟨_, rfl, stands_era _⟩
  · injection h with h; subst h; exact ⟨_, rfl, stands_era _⟩
  · injection h with h; subst h; exact ⟨_, rfl, stands_era _⟩
  · injection h with h; subst h; exact ⟨_, rfl, stands_era _⟩
  · injection h with h; subst h; exact ⟨_, rfl, stands_era _⟩
  · injection h with h; subst h; exact ⟨_, rfl, stands_era _⟩
  · injection h with h; subst h; exact ⟨_, rfl, stands_era _⟩
  · injection h with h; subst h; exact ⟨_, rfl, stands_era _⟩
  · injection h with h; subst h; exact ⟨_, rfl, stands_era _⟩
  · injection h with h; subst h; exact ⟨_, rfl, stands_era _⟩
  · cases h
end Go.Av

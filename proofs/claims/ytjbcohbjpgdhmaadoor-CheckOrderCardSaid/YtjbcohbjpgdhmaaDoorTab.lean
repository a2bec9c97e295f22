/- The functions of the table are the program's. Printed by program. -/
import Derived.Test.YtjbcohbjpgdhmaaDoorFns
import Derived.Test.YtjbcohbjpgdhmaaDoorAvDraw
import Derived.Test.YtjbcohbjpgdhmaaDoorRows
import Derived.KernelRfl
set_option linter.unusedVariables false
set_option linter.unusedSimpArgs false
set_option linter.unusedSectionVars false
namespace Go.Av
open Go.Proofs
theorem af2_is : cFunc Tryd.prog 2 [] = some af2 := by kernel_rfl
theorem af3_is : cFunc Tryd.prog 3 [0, 1, 4, 5, 6, 7, 9, 11, 12, 14, 21, 27, 58] = some af3 := by kernel_rfl
theorem af4_is : cFunc Tryd.prog 4 [0, 1, 2, 4] = some af4 := by kernel_rfl
theorem af5_is : cFunc Tryd.prog 5 [0, 1, 4, 5, 10] = some af5 := by kernel_rfl
theorem af6_is : cFunc Tryd.prog 6 [0, 1, 2, 6] = some af6 := by kernel_rfl
theorem af7_is : cFunc Tryd.prog 7 [0, 1, 2, 4, 5, 6, 7, 9, 11, 13, 14, 15, 16, 25, 36, 55, 56, 57, 58, 69, 70, 71, 72, 96, 100, 111, 120] = some af7 := by kernel_rfl
theorem af8_is : cFunc Tryd.prog 8 [0, 1, 2, 4, 5, 6, 7, 8, 9, 10, 11, 12, 13, 14, 15, 16, 17, 18, 19, 20, 29, 40, 44, 48, 74, 92, 103, 117, 133, 152, 162, 167, 182] = some af8 := by kernel_rfl
theorem af9_is : cFunc Tryd.prog 9 [0, 1, 3, 4, 5, 6, 17, 29] = some af9 := by kernel_rfl
theorem af10_is : cFunc Tryd.prog 10 [0, 1, 4, 5, 6, 9, 10, 15, 20, 25, 30] = some af10 := by kernel_rfl
theorem af11_is : cFunc Tryd.prog 11 [0, 2, 3, 4, 5, 6, 7, 11, 19] = some af11 := by kernel_rfl
theorem af12_is : cFunc Tryd.prog 12 [0, 2, 3, 5, 6, 7, 8, 9, 10, 11, 12, 19, 20, 21, 37, 44, 47, 56] = some af12 := by kernel_rfl
theorem af13_is : cFunc Tryd.prog 13 [0, 2, 3, 4, 6, 10, 11, 12, 32] = some af13 := by kernel_rfl
theorem af14_is : cFunc Tryd.prog 14 [0, 1, 4, 5, 6, 7, 8, 9, 11, 12, 41, 62, 63, 64, 65, 66, 74] = some af14 := by kernel_rfl
theorem af15_is : cFunc Tryd.prog 15 [0, 2, 3, 4, 5, 6, 7, 11, 19] = some af15 := by kernel_rfl
theorem af16_is : cFunc Tryd.prog 16 [0, 1, 4, 5, 9, 18] = some af16 := by kernel_rfl
theorem af17_is : cFunc Tryd.prog 17 [0, 2, 3, 4, 8] = some af17 := by kernel_rfl
theorem af18_is : cFunc Tryd.prog 18 [0, 1, 2, 3, 5, 6, 8, 9, 14, 22, 23, 30, 31, 38, 39, 55, 56, 63, 64, 69, 70, 75, 76, 91] = some af18 := by kernel_rfl
theorem af19_is : cFunc Tryd.prog 19 [0, 1, 2, 4, 6, 7, 8, 9, 10, 11, 12, 13, 14, 21, 23, 31, 47, 48, 60, 70, 83, 97, 113, 117, 124, 131, 141, 151, 158, 161] = some af19 := by kernel_rfl
theorem af20_is : cFunc Tryd.prog 20 [0, 1, 2, 4, 5, 7, 12] = some af20 := by kernel_rfl
theorem af21_is : cFunc Tryd.prog 21 [0, 1, 4, 5, 10, 14, 25] = some af21 := by kernel_rfl
theorem af22_is : cFunc Tryd.prog 22 [0, 2, 3, 4, 6] = some af22 := by kernel_rfl
theorem af23_is : cFunc Tryd.prog 23 [0, 1, 4, 5, 6, 7, 15, 25, 30, 45, 51] = some af23 := by kernel_rfl
theorem af24_is : cFunc Tryd.prog 24 [0, 2, 4] = some af24 := by kernel_rfl
theorem af25_is : cFunc Tryd.prog 25 [0, 1, 2, 3, 7] = some af25 := by kernel_rfl
theorem af26_is : cFunc Tryd.prog 26 [0, 1, 2, 4, 5, 9, 21] = some af26 := by kernel_rfl
theorem af27_is : cFunc Tryd.prog 27 [0, 1, 2, 4, 5, 8, 14] = some af27 := by kernel_rfl
theorem af28_is : cFunc Tryd.prog 28 [0, 1, 4, 5] = some af28 := by kernel_rfl
theorem af29_is : cFunc Tryd.prog 29 [0, 1, 2, 4, 6, 7, 8, 9, 10, 11, 12, 13, 14, 15, 20, 29, 39, 40, 41, 42, 55, 64, 68] = some af29 := by kernel_rfl
theorem af30_is : cFunc Tryd.prog 30 [0, 1, 2, 4, 5, 7, 12] = some af30 := by kernel_rfl
theorem af31_is : cFunc Tryd.prog 31 [0, 1, 4] = some af31 := by kernel_rfl
theorem af32_is : cFunc Tryd.prog 32 [0, 1, 2, 6, 7, 8, 18, 27, 33] = some af32 := by kernel_rfl
theorem af33_is : cFunc Tryd.prog 33 [0, 1, 4, 5, 6, 7, 8, 9, 17, 28, 39, 47, 56, 58] = some af33 := by kernel_rfl
theorem af34_is : cFunc Tryd.prog 34 [0, 1, 2, 3, 4, 5, 6, 7, 8, 9, 16, 41, 50, 64, 73, 88, 100, 113] = some af34 := by kernel_rfl
theorem af35_is : cFunc Tryd.prog 35 [0, 2] = some af35 := by kernel_rfl
theorem af36_is : cFunc Tryd.prog 36 [0, 2, 3, 4, 18] = some af36 := by kernel_rfl
theorem af37_is : cFunc Tryd.prog 37 [0, 1, 3, 4, 6, 7, 11, 13] = some af37 := by kernel_rfl
theorem af38_is : cFunc Tryd.prog 38 [0, 1, 2, 6, 7, 8, 9, 10, 15, 16, 32, 45, 62, 69, 80, 94] = some af38 := by kernel_rfl
theorem af39_is : cFunc Tryd.prog 39 [0, 2] = some af39 := by kernel_rfl
theorem af40_is : cFunc Tryd.prog 40 [0, 2, 3, 4, 5, 7] = some af40 := by kernel_rfl
theorem af41_is : cFunc Tryd.prog 41 [0, 2, 3, 4, 5, 6] = some af41 := by kernel_rfl
theorem af42_is : cFunc Tryd.prog 42 [0, 2] = some af42 := by kernel_rfl
theorem af43_is : cFunc Tryd.prog 43 [0, 1, 2, 4, 5, 10, 20] = some af43 := by kernel_rfl
theorem af44_is : cFunc Tryd.prog 44 [0, 2] = some af44 := by kernel_rfl
theorem af45_is : cFunc Tryd.prog 45 [0, 1, 3, 4, 5, 11, 12, 14, 16, 18, 20, 35, 39, 48, 57, 60] = some af45 := by kernel_rfl
theorem af46_is : cFunc Tryd.prog 46 [0, 1, 3, 4, 6, 7, 15, 19, 27, 30, 36] = some af46 := by kernel_rfl
theorem af47_is : cFunc Tryd.prog 47 [0, 2, 4] = some af47 := by kernel_rfl
theorem af48_is : cFunc Tryd.prog 48 [0, 1, 2, 4, 6, 7, 8, 9, 11, 12, 18, 22, 31, 34, 43, 48, 57] = some af48 := by kernel_rfl
theorem af49_is : cFunc Tryd.prog 49 [0, 2, 3, 5, 6, 8, 9, 10, 11, 12, 20, 25, 26, 27, 28] = some af49 := by kernel_rfl
theorem af50_is : cFunc Tryd.prog 50 [0, 1, 4, 5, 7, 8, 9, 16] = some af50 := by kernel_rfl
theorem af51_is : cFunc Tryd.prog 51 [0, 1, 4, 5, 10, 12, 13, 14, 24] = some af51 := by kernel_rfl
theorem af52_is : cFunc Tryd.prog 52 [0, 2, 4] = some af52 := by kernel_rfl
theorem af53_is : cFunc Tryd.prog 53 [0, 1, 2, 4, 5, 11, 20] = some af53 := by kernel_rfl
theorem af54_is : cFunc Tryd.prog 54 [0, 2] = some af54 := by kernel_rfl
theorem af55_is : cFunc Tryd.prog 55 [0, 2] = some af55 := by kernel_rfl
theorem af56_is : cFunc Tryd.prog 56 [0, 1, 4, 11] = some af56 := by kernel_rfl
theorem af57_is : cFunc Tryd.prog 57 [0, 2] = some af57 := by kernel_rfl
theorem af58_is : cFunc Tryd.prog 58 [0, 1, 4, 5, 6, 9, 10, 15, 20, 25, 30] = some af58 := by kernel_rfl
theorem af59_is : cFunc Tryd.prog 59 [0, 1, 2, 5, 6, 7, 8, 9, 13, 19, 24] = some af59 := by kernel_rfl
theorem af60_is : cFunc Tryd.prog 60 [0, 1, 2, 6, 7, 8, 9, 11, 12, 15, 19, 23, 25, 27, 64] = some af60 := by kernel_rfl
theorem af61_is : cFunc Tryd.prog 61 [0, 1, 4, 6, 16] = some af61 := by kernel_rfl
theorem af62_is : cFunc Tryd.prog 62 [0, 2, 4] = some af62 := by kernel_rfl
theorem af63_is : cFunc Tryd.prog 63 [0, 1, 4, 5, 6, 7, 9, 11, 17, 23, 34] = some af63 := by kernel_rfl
theorem af64_is : cFunc Tryd.prog 64 [0, 1, 2, 6] = some af64 := by kernel_rfl
theorem af65_is : cFunc Tryd.prog 65 [0, 2, 4] = some af65 := by kernel_rfl
theorem af66_is : cFunc Tryd.prog 66 [0, 2, 3] = some af66 := by kernel_rfl
theorem af67_is : cFunc Tryd.prog 67 [0, 1, 4, 5, 6, 7, 8, 9, 10, 11, 12, 13, 14, 15, 16, 20, 99, 139, 161] = some af67 := by kernel_rfl
theorem af68_is : cFunc Tryd.prog 68 [0, 1, 2, 3, 4, 10, 11, 12, 13, 14, 15, 16, 17, 18, 28, 30, 34, 46, 68, 89, 94] = some af68 := by kernel_rfl
theorem af69_is : cFunc Tryd.prog 69 [0, 2] = some af69 := by kernel_rfl
theorem af70_is : cFunc Tryd.prog 70 [0, 2, 4, 8, 14] = some af70 := by kernel_rfl
theorem af71_is : cFunc Tryd.prog 71 [0, 2, 3] = some af71 := by kernel_rfl
theorem af72_is : cFunc Tryd.prog 72 [0, 2] = some af72 := by kernel_rfl
theorem af73_is : cFunc Tryd.prog 73 [0, 2] = some af73 := by kernel_rfl
theorem af74_is : cFunc Tryd.prog 74 [0, 2, 4] = some af74 := by kernel_rfl
theorem af75_is : cFunc Tryd.prog 75 [0, 2, 4] = some af75 := by kernel_rfl
theorem ofns_ok : FnsOk Tryd.prog ofns := by
  intro f F h
  unfold ofns at h
  split at h
  · injection h with h; subst h; exact ⟨_, af2_is⟩
  · injection h with h; subst h; exact ⟨_, af3_is⟩
  · injection h with h; subst h; exact ⟨_, af4_is⟩
  · injection h with h; subst h; exact ⟨_, af5_is⟩
  · injection h with h; subst h; exact ⟨_, af6_is⟩
  · injection h with h; subst h; exact ⟨_, af7_is⟩
  · injection h with h; subst h; exact ⟨_, af8_is⟩
  · injection h with h; subst h; exact ⟨_, af9_is⟩
  · injection h with h; subst h; exact ⟨_, af10_is⟩
  · injection h with h; subst h; exact ⟨_, af11_is⟩
  · injection h with h; subst h; exact ⟨_, af12_is⟩
  · injection h with h; subst h; exact ⟨_, af13_is⟩
  · injection h with h; subst h; exact ⟨_, af14_is⟩
  · injection h with h; subst h; exact ⟨_, af15_is⟩
  · injection h with h; subst h; exact ⟨_, af16_is⟩
  · injection h with h; subst h; exact ⟨_, af17_is⟩
  · injection h with h; subst h; exact ⟨_, af18_is⟩
  · injection h with h; subst h; exact ⟨_, af19_is⟩
  · injection h with h; subst h; exact ⟨_, af20_is⟩
  · injection h with h; subst h; exact ⟨_, af21_is⟩
  · injection h with h; subst h; exact ⟨_, af22_is⟩
  · injection h with h; subst h; exact ⟨_, af23_is⟩
  · injection h with h; subst h; exact ⟨_, af24_is⟩
  · injection h with h; subst h; exact ⟨_, af25_is⟩
  · injection h with h; subst h; exact ⟨_, af26_is⟩
  · injection h with h; subst h; exact ⟨_, af27_is⟩
  · injection h with h; subst h; exact ⟨_, af28_is⟩
  · injection h with h; subst h; exact ⟨_, af29_is⟩
  · injection h with h; subst h; exact ⟨_, af30_is⟩
  · injection h with h; subst h; exact ⟨_, af31_is⟩
  · injection h with h; subst h; exact ⟨_, af32_is⟩
  · injection h with h; subst h; exact ⟨_, af33_is⟩
  · injection h with h; subst h; exact ⟨_, af34_is⟩
  · injection h with h; subst h; exact ⟨_, af35_is⟩
  · injection h with h; subst h; exact ⟨_, af36_is⟩
  · injection h with h; subst h; exact ⟨_, af37_is⟩
  · injection h with h; subst h; exact ⟨_, af38_is⟩
  · injection h with h; subst h; exact ⟨_, af39_is⟩
  · injection h with h; subst h; exact ⟨_, af40_is⟩
  · injection h with h; subst h; exact ⟨_, af41_is⟩
  · injection h with h; subst h; exact ⟨_, af42_is⟩
  · injection h with h; subst h; exact ⟨_, af43_is⟩
  · injection h with h; subst h; exact ⟨_, af44_is⟩
  · injection h with h; subst h; exact ⟨_, af45_is⟩
  · injection h with h; subst h; exact ⟨_, af46_is⟩
  · injection h with h; subst h; exact ⟨_, af47_is⟩
  · injection h with h; subst h; exact ⟨_, af48_is⟩
  · injection h with h; subst h; exact ⟨_, af49_is⟩
  · injection h with h; subst h; exact ⟨_, af50_is⟩
  · injection h with h; subst h; exact ⟨_, af51_is⟩
  · injection h with h; subst h; exact ⟨_, af52_is⟩
  · injection h with h; subst h; exact ⟨_, af53_is⟩
  · injection h with h; subst h; exact ⟨_, af54_is⟩
  · injection h with h; subst h; exact ⟨_, af55_is⟩
  · injection h with h; subst h; exact ⟨_, af56_is⟩
  · injection h with h; subst h; exact ⟨_, af57_is⟩
  · injection h with h; subst h; exact ⟨_, af58_is⟩
  · injection h with h; subst h; exact ⟨_, af59_is⟩
  · injection h with h; subst h; exact ⟨_, af60_is⟩
  · injection h with h; subst h; exact ⟨_, af61_is⟩
  · injection h with h; subst h; exact ⟨_, af62_is⟩
  · injection h with h; subst h; exact ⟨_, af63_is⟩
  · injection h with h; subst h; exact ⟨_, af64_is⟩
  · injection h with h; subst h; exact ⟨_, af65_is⟩
  · injection h with h; subst h; exact ⟨_, af66_is⟩
  · injection h with h; subst h; exact ⟨_, af67_is⟩
  · injection h with h; subst h; exact ⟨_, af68_is⟩
  · injection h with h; subst h; exact ⟨_, af69_is⟩
  · injection h with h; subst h; exact ⟨_, af70_is⟩
  · injection h with h; subst h; exact ⟨_, af71_is⟩
  · injection h with h; subst h; exact ⟨_, af72_is⟩
  · injection h with h; subst h; exact ⟨_, af73_is⟩
  · injection h with h; subst h; exact ⟨_, af74_is⟩
  · injection h with h; subst h; exact ⟨_, af75_is⟩
  · cases h
end Go.Av

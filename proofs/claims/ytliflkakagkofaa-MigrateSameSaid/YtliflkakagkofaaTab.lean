/- The functions of the table are the program's. Printed by program. -/
import Derived.Test.YtliflkakagkofaaCon
import Derived.Test.YtliflkakagkofaaArg
import Derived.Test.YtliflkakagkofaaAvJ2
import Derived.Test.YtliflkakagkofaaRows
import Derived.KernelRfl
set_option linter.unusedVariables false
set_option linter.unusedSimpArgs false
set_option linter.unusedSectionVars false
namespace Go.Av
open Go.Proofs
theorem pf2_is : cFunc Try.prog 2 [] = some pf2.era := by kernel_rfl
theorem pf3_is : cFunc Try.prog 3 [0, 1, 2, 3, 8, 9, 10, 11, 12, 13, 14, 15, 16, 17, 18, 19, 20, 22, 30, 44, 94, 112, 116, 147, 174] = some pf3.era := by kernel_rfl
theorem pf4_is : cFunc Try.prog 4 [0, 1, 2, 6, 7, 8, 9, 10, 11, 12, 13, 14, 16, 24, 38, 48, 72, 84] = some pf4.era := by kernel_rfl
theorem pf5_is : cFunc Try.prog 5 [0, 1, 2, 6, 7, 8, 9, 10, 11, 12, 14, 52] = some pf5.era := by kernel_rfl
theorem pf6_is : cFunc Try.prog 6 [0, 1, 2, 3, 8, 9, 10, 11, 12, 13, 14, 15, 16, 17, 19, 22, 27, 40, 66, 129] = some pf6.era := by kernel_rfl
theorem pf7_is : cFunc Try.prog 7 [0, 1, 2, 6, 7, 8, 9, 10, 11, 12, 14, 47, 90] = some pf7.era := by kernel_rfl
theorem pf8_is : cFunc Try.prog 8 [0, 1, 2, 6, 7, 8, 9, 10, 11, 12, 13, 14, 15, 16, 17, 19, 77, 79, 114] = some pf8.era := by kernel_rfl
theorem pf9_is : cFunc Try.prog 9 [0, 1, 2, 3] = some pf9.era := by kernel_rfl
theorem pf10_is : cFunc Try.prog 10 [0, 2, 3, 7, 34] = some pf10.era := by kernel_rfl
theorem pf11_is : cFunc Try.prog 11 [0, 2, 3, 4, 5, 6, 7, 8, 9, 10, 11, 19, 50, 55, 60, 72, 83] = some pf11.era := by kernel_rfl
theorem pf12_is : cFunc Try.prog 12 [0, 1, 4, 5, 10] = some pf12.era := by kernel_rfl
theorem pf13_is : cFunc Try.prog 13 [0, 2, 3, 4, 8] = some pf13.era := by kernel_rfl
theorem pf14_is : cFunc Try.prog 14 [0, 1, 4, 5, 6, 18] = some pf14.era := by kernel_rfl
theorem pf15_is : cFunc Try.prog 15 [0, 1, 4, 5, 10, 14, 25] = some pf15.era := by kernel_rfl
theorem pf16_is : cFunc Try.prog 16 [0, 1, 4, 5, 6, 7, 8, 9, 10, 16, 17, 18, 19, 34] = some pf16.era := by kernel_rfl
theorem pf17_is : cFunc Try.prog 17 [0, 1, 4, 5, 6, 7, 8, 12, 22, 48] = some pf17.era := by kernel_rfl
theorem pf18_is : cFunc Try.prog 18 [0, 1, 2, 6, 7, 8, 9, 15, 16, 17, 18, 37] = some pf18.era := by kernel_rfl
theorem pf19_is : cFunc Try.prog 19 [0, 1, 2, 6, 7, 8, 9, 10, 17, 38] = some pf19.era := by kernel_rfl
theorem pf20_is : cFunc Try.prog 20 [0, 1, 4, 5, 6, 10, 19] = some pf20.era := by kernel_rfl
theorem pf21_is : cFunc Try.prog 21 [0, 1, 4, 5, 6, 9, 10, 15, 20, 25, 30] = some pf21.era := by kernel_rfl
theorem pf22_is : cFunc Try.prog 22 [0, 2, 3, 4, 5, 6, 7, 8, 9, 10, 13, 17, 26, 29, 42, 50, 62, 70, 78, 97, 102, 107] = some pf22.era := by kernel_rfl
theorem pf23_is : cFunc Try.prog 23 [0, 1, 2, 3, 8, 18] = some pf23.era := by kernel_rfl
theorem pf24_is : cFunc Try.prog 24 [0, 1, 2, 3, 4, 5, 12, 13, 25, 32, 43] = some pf24.era := by kernel_rfl
theorem pf25_is : cFunc Try.prog 25 [0, 1, 2, 3, 7] = some pf25.era := by kernel_rfl
theorem pf26_is : cFunc Try.prog 26 [0, 1, 2, 3, 4, 5, 6, 7, 8, 9, 16, 41, 50, 64, 73, 88, 100, 113] = some pf26.era := by kernel_rfl
theorem pf27_is : cFunc Try.prog 27 [0, 2, 3, 4, 8] = some pf27.era := by kernel_rfl
theorem pf28_is : cFunc Try.prog 28 [0, 2, 3, 4, 5, 6, 8, 10, 11, 12, 13, 29] = some pf28.era := by kernel_rfl
theorem pf29_is : cFunc Try.prog 29 [0, 1, 4, 5, 24, 28, 52] = some pf29.era := by kernel_rfl
theorem pf30_is : cFunc Try.prog 30 [0, 1, 2, 3, 4, 5, 14, 28, 38, 48, 62, 66, 81, 91, 94, 109, 117] = some pf30.era := by kernel_rfl
theorem pf31_is : cFunc Try.prog 31 [0, 1, 4, 5, 10] = some pf31.era := by kernel_rfl
theorem pf32_is : cFunc Try.prog 32 [0, 2] = some pf32.era := by kernel_rfl
theorem pf33_is : cFunc Try.prog 33 [0, 1, 2, 4, 5, 11, 20] = some pf33.era := by kernel_rfl
theorem pf34_is : cFunc Try.prog 34 [0, 2, 4] = some pf34.era := by kernel_rfl
def pfsA : Nat → Option AFunc := fun f => (pfs f).map PFunc.era
theorem pfsA_era : ∀ f F, pfs f = some F → pfsA f = some F.era := fun f F h => by simp [pfsA, h]
theorem pfsA_ok : FnsOk Try.prog pfsA := by
  intro f F h
  unfold pfsA pfs at h
  split at h
  · injection h with h; subst h; exact ⟨_, pf2_is⟩
  · injection h with h; subst h; exact ⟨_, pf3_is⟩
  · injection h with h; subst h; exact ⟨_, pf4_is⟩
  · injection h with h; subst h; exact ⟨_, pf5_is⟩
  · injection h with h; subst h; exact ⟨_, pf6_is⟩
  · injection h with h; subst h; exact ⟨_, pf7_is⟩
  · injection h with h; subst h; exact ⟨_, pf8_is⟩
  · injection h with h; subst h; exact ⟨_, pf9_is⟩
  · injection h with h; subst h; exact ⟨_, pf10_is⟩
  · injection h with h; subst h; exact ⟨_, pf11_is⟩
  · injection h with h; subst h; exact ⟨_, pf12_is⟩
  · injection h with h; subst h; exact ⟨_, pf13_is⟩
  · injection h with h; subst h; exact ⟨_, pf14_is⟩
  · injection h with h; subst h; exact ⟨_, pf15_is⟩
  · injection h with h; subst h; exact ⟨_, pf16_is⟩
  · injection h with h; subst h; exact ⟨_, pf17_is⟩
  · injection h with h; subst h; exact ⟨_, pf18_is⟩
  · injection h with h; subst h; exact ⟨_, pf19_is⟩
  · injection h with h; subst h; exact ⟨_, pf20_is⟩
  · injection h with h; subst h; exact ⟨_, pf21_is⟩
  · injection h with h; subst h; exact ⟨_, pf22_is⟩
  · injection h with h; subst h; exact ⟨_, pf23_is⟩
  · injection h with h; subst h; exact ⟨_, pf24_is⟩
  · injection h with h; subst h; exact ⟨_, pf25_is⟩
  · injection h with h; subst h; exact ⟨_, pf26_is⟩
  · injection h with h; subst h; exact ⟨_, pf27_is⟩
  · injection h with h; subst h; exact ⟨_, pf28_is⟩
  · injection h with h; subst h; exact ⟨_, pf29_is⟩
  · injection h with h; subst h; exact ⟨_, pf30_is⟩
  · injection h with h; subst h; exact ⟨_, pf31_is⟩
  · injection h with h; subst h; exact ⟨_, pf32_is⟩
  · injection h with h; subst h; exact ⟨_, pf33_is⟩
  · injection h with h; subst h; exact ⟨_, pf34_is⟩
  · cases h
end Go.Av

/- The law CheckOrder at each of its ten inputs, by evaluation in the kernel. -/
import Derived.Test.YtjbcohbjpgdhmaaDoorFns
import Derived.KernelRfl
set_option linter.unusedVariables false
set_option linter.unusedSimpArgs false
set_option linter.unusedSectionVars false
namespace Go.Av
def isTrue : Option (AV × AHeap) → Bool
  | some (.b true, _) => true
  | _ => false
/-- The package variables: there, and not looked at. -/
def h3 : AHeap := ((AHeap.empty.push .dead).push .dead).push .dead
theorem e_false_0 : isTrue (acall ofns 10000 60 3 [.b false, .i .i64 0] h3) = true := by kernel_rfl
theorem e_false_1 : isTrue (acall ofns 10000 60 3 [.b false, .i .i64 1] h3) = true := by kernel_rfl
theorem e_false_2 : isTrue (acall ofns 10000 60 3 [.b false, .i .i64 2] h3) = true := by kernel_rfl
theorem e_false_3 : isTrue (acall ofns 10000 60 3 [.b false, .i .i64 3] h3) = true := by kernel_rfl
theorem e_false_4 : isTrue (acall ofns 10000 60 3 [.b false, .i .i64 4] h3) = true := by kernel_rfl
theorem e_true_0 : isTrue (acall ofns 10000 60 3 [.b true, .i .i64 0] h3) = true := by kernel_rfl
theorem e_true_1 : isTrue (acall ofns 10000 60 3 [.b true, .i .i64 1] h3) = true := by kernel_rfl
theorem e_true_2 : isTrue (acall ofns 10000 60 3 [.b true, .i .i64 2] h3) = true := by kernel_rfl
theorem e_true_3 : isTrue (acall ofns 10000 60 3 [.b true, .i .i64 3] h3) = true := by kernel_rfl
theorem e_true_4 : isTrue (acall ofns 10000 60 3 [.b true, .i .i64 4] h3) = true := by kernel_rfl
end Go.Av

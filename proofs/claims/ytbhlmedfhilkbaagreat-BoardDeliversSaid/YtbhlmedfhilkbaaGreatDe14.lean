/- BoardDelivers: an instruction that loads or stores. No condition. -/
import Derived.Test.YtbhlmedfhilkbaaGreatDe5
set_option linter.unusedVariables false
set_option linter.unusedSimpArgs false
namespace Go.Proofs.YtbhlmedfhilkbaaGreat
open Go Go.Sx
set_option maxRecDepth 1000000
theorem p21_0_0 : sayP 21 0 0 = true := by kernel_rfl
theorem p21_0_1 : sayP 21 0 1 = true := by kernel_rfl
theorem p21_0_2 : sayP 21 0 2 = true := by kernel_rfl
theorem p21_1_0 : sayP 21 1 0 = true := by kernel_rfl
theorem p21_1_1 : sayP 21 1 1 = true := by kernel_rfl
theorem p21_1_2 : sayP 21 1 2 = true := by kernel_rfl
theorem p21_2_0 : sayP 21 2 0 = true := by kernel_rfl
theorem p21_2_1 : sayP 21 2 1 = true := by kernel_rfl
theorem p21_2_2 : sayP 21 2 2 = true := by kernel_rfl
theorem p21_3_0 : sayP 21 3 0 = true := by kernel_rfl
theorem p21_3_1 : sayP 21 3 1 = true := by kernel_rfl
theorem p21_3_2 : sayP 21 3 2 = true := by kernel_rfl
end Go.Proofs.YtbhlmedfhilkbaaGreat

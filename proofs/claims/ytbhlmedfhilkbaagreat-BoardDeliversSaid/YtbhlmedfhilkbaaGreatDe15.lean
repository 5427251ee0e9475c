/- BoardDelivers: an instruction that loads or stores. No condition. -/
import Derived.Test.YtbhlmedfhilkbaaGreatDe5
set_option linter.unusedVariables false
set_option linter.unusedSimpArgs false
namespace Go.Proofs.YtbhlmedfhilkbaaGreat
open Go Go.Sx
set_option maxRecDepth 1000000
theorem p22_0_0 : sayP 22 0 0 = true := by kernel_rfl
theorem p22_0_1 : sayP 22 0 1 = true := by kernel_rfl
theorem p22_0_2 : sayP 22 0 2 = true := by kernel_rfl
theorem p22_1_0 : sayP 22 1 0 = true := by kernel_rfl
theorem p22_1_1 : sayP 22 1 1 = true := by kernel_rfl
theorem p22_1_2 : sayP 22 1 2 = true := by kernel_rfl
theorem p22_2_0 : sayP 22 2 0 = true := by kernel_rfl
theorem p22_2_1 : sayP 22 2 1 = true := by kernel_rfl
theorem p22_2_2 : sayP 22 2 2 = true := by kernel_rfl
theorem p22_3_0 : sayP 22 3 0 = true := by kernel_rfl
theorem p22_3_1 : sayP 22 3 1 = true := by kernel_rfl
theorem p22_3_2 : sayP 22 3 2 = true := by kernel_rfl
end Go.Proofs.YtbhlmedfhilkbaaGreat

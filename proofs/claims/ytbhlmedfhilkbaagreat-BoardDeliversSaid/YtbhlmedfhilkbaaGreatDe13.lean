/- BoardDelivers: an instruction that loads or stores. No condition. -/
import Derived.Test.YtbhlmedfhilkbaaGreatDe5
set_option linter.unusedVariables false
set_option linter.unusedSimpArgs false
namespace Go.Proofs.YtbhlmedfhilkbaaGreat
open Go Go.Sx
set_option maxRecDepth 1000000
theorem p20_0_0 : sayP 20 0 0 = true := by kernel_rfl
theorem p20_0_1 : sayP 20 0 1 = true := by kernel_rfl
theorem p20_0_2 : sayP 20 0 2 = true := by kernel_rfl
theorem p20_1_0 : sayP 20 1 0 = true := by kernel_rfl
theorem p20_1_1 : sayP 20 1 1 = true := by kernel_rfl
theorem p20_1_2 : sayP 20 1 2 = true := by kernel_rfl
theorem p20_2_0 : sayP 20 2 0 = true := by kernel_rfl
theorem p20_2_1 : sayP 20 2 1 = true := by kernel_rfl
theorem p20_2_2 : sayP 20 2 2 = true := by kernel_rfl
theorem p20_3_0 : sayP 20 3 0 = true := by kernel_rfl
theorem p20_3_1 : sayP 20 3 1 = true := by kernel_rfl
theorem p20_3_2 : sayP 20 3 2 = true := by kernel_rfl
end Go.Proofs.YtbhlmedfhilkbaaGreat

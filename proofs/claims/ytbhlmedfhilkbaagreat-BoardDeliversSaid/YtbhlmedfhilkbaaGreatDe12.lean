/- BoardDelivers: an instruction that loads or stores. No condition. -/
import Derived.Test.YtbhlmedfhilkbaaGreatDe5
set_option linter.unusedVariables false
set_option linter.unusedSimpArgs false
namespace Go.Proofs.YtbhlmedfhilkbaaGreat
open Go Go.Sx
set_option maxRecDepth 1000000
theorem p19_0_0 : sayP 19 0 0 = true := by kernel_rfl
theorem p19_0_1 : sayP 19 0 1 = true := by kernel_rfl
theorem p19_0_2 : sayP 19 0 2 = true := by kernel_rfl
theorem p19_1_0 : sayP 19 1 0 = true := by kernel_rfl
theorem p19_1_1 : sayP 19 1 1 = true := by kernel_rfl
theorem p19_1_2 : sayP 19 1 2 = true := by kernel_rfl
theorem p19_2_0 : sayP 19 2 0 = true := by kernel_rfl
theorem p19_2_1 : sayP 19 2 1 = true := by kernel_rfl
theorem p19_2_2 : sayP 19 2 2 = true := by kernel_rfl
theorem p19_3_0 : sayP 19 3 0 = true := by kernel_rfl
theorem p19_3_1 : sayP 19 3 1 = true := by kernel_rfl
theorem p19_3_2 : sayP 19 3 2 = true := by kernel_rfl
end Go.Proofs.YtbhlmedfhilkbaaGreat

/- BoardDelivers: Sys, Break. No condition. -/
import Derived.Test.YtbhlmedfhilkbaaGreatDe5
set_option linter.unusedVariables false
set_option linter.unusedSimpArgs false
namespace Go.Proofs.YtbhlmedfhilkbaaGreat
open Go Go.Sx
set_option maxRecDepth 1000000
theorem d32_0 : sayD 32 0 = true := by kernel_rfl
theorem d32_1 : sayD 32 1 = true := by kernel_rfl
theorem d32_2 : sayD 32 2 = true := by kernel_rfl
theorem d32_3 : sayD 32 3 = true := by kernel_rfl
theorem d33_0 : sayD 33 0 = true := by kernel_rfl
theorem d33_1 : sayD 33 1 = true := by kernel_rfl
theorem d33_2 : sayD 33 2 = true := by kernel_rfl
theorem d33_3 : sayD 33 3 = true := by kernel_rfl
end Go.Proofs.YtbhlmedfhilkbaaGreat

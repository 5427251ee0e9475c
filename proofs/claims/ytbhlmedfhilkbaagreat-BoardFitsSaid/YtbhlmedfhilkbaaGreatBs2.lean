/- Snapshots: content, K. No condition. -/
import Derived.Test.YtbhlmedfhilkbaaGreatBs1
set_option linter.unusedSimpArgs false
set_option linter.unusedVariables false
set_option linter.unusedSectionVars false
namespace Go.Proofs.YtbhlmedfhilkbaaGreat
open Go Go.Sx
set_option maxRecDepth 1000000
theorem contK_0 : contK 0 = true := by kernel_rfl
theorem contK_1 : contK 1 = true := by kernel_rfl
theorem contK_2 : contK 2 = true := by kernel_rfl
theorem contK_3 : contK 3 = true := by kernel_rfl
theorem contK_4 : contK 4 = true := by kernel_rfl
theorem contK_5 : contK 5 = true := by kernel_rfl
end Go.Proofs.YtbhlmedfhilkbaaGreat

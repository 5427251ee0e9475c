/- Snapshots: content, Q, images 0 to 2. No condition. -/
import Derived.Test.YtbhlmedfhilkbaaGreatBs1
set_option linter.unusedSimpArgs false
set_option linter.unusedVariables false
set_option linter.unusedSectionVars false
namespace Go.Proofs.YtbhlmedfhilkbaaGreat
open Go Go.Sx
set_option maxRecDepth 1000000
theorem contC_0 : contC 0 = true := by kernel_rfl
theorem contC_1 : contC 1 = true := by kernel_rfl
theorem contC_2 : contC 2 = true := by kernel_rfl
end Go.Proofs.YtbhlmedfhilkbaaGreat

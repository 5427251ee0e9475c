/- BoardRuns: a case. No condition. -/
import Derived.Test.YtbhlmedfhilkbaaGreatBr7
set_option linter.unusedSimpArgs false
set_option linter.unusedVariables false
set_option linter.unusedSectionVars false
namespace Go.Proofs.YtbhlmedfhilkbaaGreat
open Go Go.Sx
set_option maxRecDepth 1000000
noncomputable section
theorem runs_b:rL 6 true false []=true:=by kernel_rfl
end
end Go.Proofs.YtbhlmedfhilkbaaGreat

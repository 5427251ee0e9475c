/- The reference's step of K agrees, operation by operation (part). No condition. -/
import Derived.Test.YtbhlmedfhilkbaaGreatKs6
set_option linter.unusedSimpArgs false
set_option linter.unusedVariables false
set_option linter.unusedSectionVars false
namespace Go.Proofs.YtbhlmedfhilkbaaGreat
open Go Go.Sx
set_option maxRecDepth 1000000
noncomputable section
theorem WZ:jc 0 0 15=true:=by kernel_rfl
theorem WT:jc 1 0 15=true:=by kernel_rfl
theorem W6:jc 2 0 15=true:=by kernel_rfl
end
end Go.Proofs.YtbhlmedfhilkbaaGreat

/- The reference's step of K agrees, operation by operation (part). No condition. -/
import Derived.Test.YtbhlmedfhilkbaaGreatKs6
set_option linter.unusedSimpArgs false
set_option linter.unusedVariables false
set_option linter.unusedSectionVars false
namespace Go.Proofs.YtbhlmedfhilkbaaGreat
open Go Go.Sx
set_option maxRecDepth 1000000
noncomputable section
theorem Ww:jc 4 0 1=true:=by kernel_rfl
theorem Yr:jc 4 1 1=true:=by kernel_rfl
theorem Wt:jc 4 2 1=true:=by kernel_rfl
theorem Yv:jc 4 3 1=true:=by kernel_rfl
theorem Yp:jc 5 0 1=true:=by kernel_rfl
end
end Go.Proofs.YtbhlmedfhilkbaaGreat

/- A step of K: the trees are in order (part). No condition. -/
import Derived.Test.YtbhlmedfhilkbaaGreatKc0
set_option linter.unusedSimpArgs false
set_option linter.unusedVariables false
set_option linter.unusedSectionVars false
namespace Go.Proofs.YtbhlmedfhilkbaaGreat
open Go Go.Sx
set_option maxRecDepth 1000000
noncomputable section
theorem Xv:zl 0=true:=by kernel_rfl
theorem WW:zl 1=true:=by kernel_rfl
end
end Go.Proofs.YtbhlmedfhilkbaaGreat
namespace Go.Proofs.YtbhlmedfhilkbaaGreat
open Go Go.Sx
set_option maxRecDepth 1000000
noncomputable section
theorem Xg:zl 2=true:=by kernel_rfl
theorem XT:zl 3=true:=by kernel_rfl
end
end Go.Proofs.YtbhlmedfhilkbaaGreat

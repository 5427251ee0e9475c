/- A step of Q reads of a state its digits alone. No condition. -/
import Derived.Test.YtbhlmedfhilkbaaGreatNmK
import Derived.Test.YtbhlmedfhilkbaaGreatQd5
set_option linter.unusedSimpArgs false
set_option linter.unusedVariables false
set_option linter.unusedSectionVars false
namespace Go.Proofs.YtbhlmedfhilkbaaGreat
open Go Go.Sx
set_option maxRecDepth 1000000
noncomputable section
theorem ai3:aee tSt gO FS BK=true:=by kernel_rfl
theorem ai1:aee tSt gO FS x8=true:=by kernel_rfl
theorem aij:aef opS=true:=by kernel_rfl
end
end Go.Proofs.YtbhlmedfhilkbaaGreat

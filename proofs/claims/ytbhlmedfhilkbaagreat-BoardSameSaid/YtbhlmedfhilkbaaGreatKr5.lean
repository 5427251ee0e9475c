/- The reference's step of K agrees, operation by operation (part). No condition. -/
import Derived.Test.YtbhlmedfhilkbaaGreatKs6
set_option linter.unusedSimpArgs false
set_option linter.unusedVariables false
set_option linter.unusedSectionVars false
namespace Go.Proofs.YtbhlmedfhilkbaaGreat
open Go Go.Sx
set_option maxRecDepth 1000000
noncomputable section
theorem XR:jc 3 0 1=true:=by kernel_rfl
theorem WX:jc 3 1 1=true:=by kernel_rfl
theorem YA:jc 3 2 1=true:=by kernel_rfl
theorem Yq:jc 3 3 1=true:=by kernel_rfl
theorem XP:jc 3 4 1=true:=by kernel_rfl
theorem W8:jc 3 5 1=true:=by kernel_rfl
theorem Wx:jc 3 6 1=true:=by kernel_rfl
end
end Go.Proofs.YtbhlmedfhilkbaaGreat

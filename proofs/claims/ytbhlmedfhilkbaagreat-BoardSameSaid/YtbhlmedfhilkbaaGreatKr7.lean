/- The reference's step of K agrees, operation by operation (part). No condition. -/
import Derived.Test.YtbhlmedfhilkbaaGreatKs6
set_option linter.unusedSimpArgs false
set_option linter.unusedVariables false
set_option linter.unusedSectionVars false
namespace Go.Proofs.YtbhlmedfhilkbaaGreat
open Go Go.Sx
set_option maxRecDepth 1000000
noncomputable section
theorem Yg:jc 5 1 1=true:=by kernel_rfl
theorem Xm:jc 5 2 1=true:=by kernel_rfl
theorem Xn:jc 6 0 6=true:=by kernel_rfl
theorem Xp:jc 6 6 6=true:=by kernel_rfl
theorem SG:jc 6 12 6=true:=by kernel_rfl
theorem Sy:jc 6 18 6=true:=by kernel_rfl
theorem UP:jc 6 24 6=true:=by kernel_rfl
end
end Go.Proofs.YtbhlmedfhilkbaaGreat

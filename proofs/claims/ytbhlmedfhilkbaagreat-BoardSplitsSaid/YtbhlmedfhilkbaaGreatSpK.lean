/- A step of K reads of a state its digits alone. No condition. -/
import Derived.Test.YtbhlmedfhilkbaaGreatNmK
import Derived.Test.YtbhlmedfhilkbaaGreatKs6
set_option linter.unusedSimpArgs false
set_option linter.unusedVariables false
set_option linter.unusedSectionVars false
namespace Go.Proofs.YtbhlmedfhilkbaaGreat
open Go Go.Sx
set_option maxRecDepth 1000000
noncomputable section
theorem ai5:aee tKs da FKS (bm 0)=true:=by kernel_rfl
theorem aiy:aee tKs da FKS (bm 1)=true:=by kernel_rfl
theorem ai7:aee tKs da FKS (bm 2)=true:=by kernel_rfl
theorem aiv:aee tKs da FKS (bm 3)=true:=by kernel_rfl
theorem aiz:aee tKs da FKS (bm 4)=true:=by kernel_rfl
theorem aix:aee tKs da FKS (bm 5)=true:=by kernel_rfl
theorem ai0:aee tKs da FKS (bm 6)=true:=by kernel_rfl
theorem aii:aef kj=true:=by kernel_rfl
end
end Go.Proofs.YtbhlmedfhilkbaaGreat

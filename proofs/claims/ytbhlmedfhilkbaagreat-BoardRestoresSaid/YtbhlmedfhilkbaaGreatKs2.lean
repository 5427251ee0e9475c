/- Part Ks2. No condition. -/
import Derived.Test.YtbhlmedfhilkbaaGreatKc0
set_option linter.all false
namespace Go.Proofs.YtbhlmedfhilkbaaGreat
open Go Go.Sx
set_option maxRecDepth 1000000
noncomputable section
theorem Xv:zl 0=true:=by kernel_rfl
theorem WW:zl 1=true:=by kernel_rfl
theorem Xg:zl 2=true:=by kernel_rfl
theorem XT:zl 3=true:=by kernel_rfl
end
end Go.Proofs.YtbhlmedfhilkbaaGreat

/- Part Ks4. No condition. -/
import Derived.Test.YtbhlmedfhilkbaaGreatKc0
set_option linter.all false
namespace Go.Proofs.YtbhlmedfhilkbaaGreat
open Go Go.Sx
set_option maxRecDepth 1000000
noncomputable section
theorem WE:zl 4=true:=by kernel_rfl
theorem Xo:zl 6=true:=by kernel_rfl
theorem W3:zl 5=true:=by kernel_rfl
end
end Go.Proofs.YtbhlmedfhilkbaaGreat

/- Part Bs6. No condition. -/
import Derived.Test.YtbhlmedfhilkbaaGreatRm2
set_option linter.all false
namespace Go.Proofs.YtbhlmedfhilkbaaGreat
open Go Go.Sx
set_option maxRecDepth 1000000
theorem Uc:qI 3=true:=by kernel_rfl
theorem SL:qI 4=true:=by kernel_rfl
theorem TZ:qI 5=true:=by kernel_rfl
end Go.Proofs.YtbhlmedfhilkbaaGreat

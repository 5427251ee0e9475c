/- Part Ue4. No condition. -/
import Derived.Test.YtpdhneemedlgaaaGreatUe1
set_option linter.all false
namespace Go.Proofs.YtpdhneemedlgaaaGreat.te
open Go Go.Sx
set_option maxRecDepth 1000000
noncomputable section
theorem CJ:(List.range 13).all (xH false 13)=true:=by kernel_rfl
theorem CB:(List.range 18).all (xH true 18)=true:=by kernel_rfl
theorem EV:(List.range 8).all (xH true 8)=true:=by kernel_rfl
end
end Go.Proofs.YtpdhneemedlgaaaGreat.te

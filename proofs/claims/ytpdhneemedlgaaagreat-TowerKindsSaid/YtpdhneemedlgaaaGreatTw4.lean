/- Part Tw4. No condition. -/
import Derived.Test.YtpdhneemedlgaaaGreatTw3
set_option linter.all false
namespace Go.Proofs.YtpdhneemedlgaaaGreat
open Go Go.Sx
set_option maxRecDepth 1000000
noncomputable section
theorem BQ:okK 1 3=true:=by kernel_rfl
theorem Au:okK 2 3=true:=by kernel_rfl
theorem z9:okK 1 4=true:=by kernel_rfl
theorem BT:okK 2 4=true:=by kernel_rfl
end
end Go.Proofs.YtpdhneemedlgaaaGreat

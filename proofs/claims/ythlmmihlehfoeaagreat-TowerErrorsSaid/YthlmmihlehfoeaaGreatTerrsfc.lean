/- TowerErrors: closed facts of its row. No condition. -/
import Derived.Test.YthlmmihlehfoeaaGreatRows
set_option linter.unusedVariables false
set_option linter.unusedSimpArgs false
namespace Go.Proofs.YthlmmihlehfoeaaGreat.terrors
open Go
set_option maxRecDepth 1000000
theorem f_mapsRowed : mapsRowed Tryz.prog = true := by kernel_rfl
theorem f_stopsHeard : Tryz.prog.stopsHeard = true := by kernel_rfl
theorem f_mayEnter : Tryz.prog.mayEnter = true := by kernel_rfl
end Go.Proofs.YthlmmihlehfoeaaGreat.terrors

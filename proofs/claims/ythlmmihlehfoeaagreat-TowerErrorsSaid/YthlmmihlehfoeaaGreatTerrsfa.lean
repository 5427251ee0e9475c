/- TowerErrors: closed facts of its row. No condition. -/
import Derived.Test.YthlmmihlehfoeaaGreatRows
set_option linter.unusedVariables false
set_option linter.unusedSimpArgs false
namespace Go.Proofs.YthlmmihlehfoeaaGreat.terrors
open Go
set_option maxRecDepth 1000000
theorem f_inPlace : (Rows.towerErrorsRow.inPlace == Tryz.prog.inPlace 4) = true := by kernel_rfl
theorem f_unfollowed : (Rows.towerErrorsRow.unfollowed == Tryz.prog.unfollowed 4) = true := by kernel_rfl
end Go.Proofs.YthlmmihlehfoeaaGreat.terrors

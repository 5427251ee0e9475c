/- TowerErrors: closed facts of its row. No condition. -/
import Derived.Test.YthlmmihlehfoeaaGreatRows
set_option linter.unusedVariables false
set_option linter.unusedSimpArgs false
namespace Go.Proofs.YthlmmihlehfoeaaGreat.terrors
open Go
set_option maxRecDepth 1000000
theorem f_recurses : (Rows.towerErrorsRow.recurses == Tryz.prog.recurses 4) = true := by kernel_rfl
theorem f_named : (Rows.towerErrorsRow.named == Tryz.prog.varsNamed 4) = true := by kernel_rfl
end Go.Proofs.YthlmmihlehfoeaaGreat.terrors

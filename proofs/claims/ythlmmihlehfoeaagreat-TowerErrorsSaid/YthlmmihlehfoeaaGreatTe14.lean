/- TowerErrors: the law's runs. No condition. -/
import Derived.Test.YthlmmihlehfoeaaGreatTe7
set_option linter.unusedVariables false
set_option linter.unusedSimpArgs false
namespace Go.Proofs.YthlmmihlehfoeaaGreat
open Go Go.Sx
set_option maxRecDepth 1000000
noncomputable section
theorem te32p0 : okTE (teD 0) (.lit 2) (preF 3 2 1536) = true := by kernel_rfl
theorem te32p1 : okTE (teD 1) (.lit 2) (preF 3 2 1536) = true := by kernel_rfl
end
end Go.Proofs.YthlmmihlehfoeaaGreat

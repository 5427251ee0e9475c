/- TowerErrors: the law's runs. No condition. -/
import Derived.Test.YthlmmihlehfoeaaGreatTe7
set_option linter.unusedVariables false
set_option linter.unusedSimpArgs false
namespace Go.Proofs.YthlmmihlehfoeaaGreat
open Go Go.Sx
set_option maxRecDepth 1000000
noncomputable section
theorem te31B : okTE teB (.lit 1) (preB 3 1) = true := by kernel_rfl
theorem te31p0 : okTE (teD 0) (.lit 1) (preF 3 1 1024) = true := by kernel_rfl
end
end Go.Proofs.YthlmmihlehfoeaaGreat

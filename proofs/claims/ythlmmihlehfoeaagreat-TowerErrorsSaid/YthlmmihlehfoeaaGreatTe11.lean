/- TowerErrors: the law's runs. No condition. -/
import Derived.Test.YthlmmihlehfoeaaGreatTe7
set_option linter.unusedVariables false
set_option linter.unusedSimpArgs false
namespace Go.Proofs.YthlmmihlehfoeaaGreat
open Go Go.Sx
set_option maxRecDepth 1000000
noncomputable section
theorem te30 : okTE teB (.lit 0) (preJ 3 0) = true := by kernel_rfl
theorem te31A : okTE teB (.lit 1) (preA 3 1) = true := by kernel_rfl
end
end Go.Proofs.YthlmmihlehfoeaaGreat

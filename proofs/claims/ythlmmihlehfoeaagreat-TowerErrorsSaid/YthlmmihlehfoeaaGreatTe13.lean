/- TowerErrors: the law's runs. No condition. -/
import Derived.Test.YthlmmihlehfoeaaGreatTe7
set_option linter.unusedVariables false
set_option linter.unusedSimpArgs false
namespace Go.Proofs.YthlmmihlehfoeaaGreat
open Go Go.Sx
set_option maxRecDepth 1000000
noncomputable section
theorem te32A : okTE teB (.lit 2) (preA 3 2) = true := by kernel_rfl
theorem te32B : okTE teB (.lit 2) (preB 3 2) = true := by kernel_rfl
end
end Go.Proofs.YthlmmihlehfoeaaGreat

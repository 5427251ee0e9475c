/- TowerErrors: the law's runs. No condition. -/
import Derived.Test.YthlmmihlehfoeaaGreatTe7
set_option linter.unusedVariables false
set_option linter.unusedSimpArgs false
namespace Go.Proofs.YthlmmihlehfoeaaGreat
open Go Go.Sx
set_option maxRecDepth 1000000
noncomputable section
theorem te3L : okTE teB (.var 1) (preL 3) = true := by kernel_rfl
theorem te3H : okTE teB (.var 1) (preH 3) = true := by kernel_rfl
end
end Go.Proofs.YthlmmihlehfoeaaGreat

/- Towers: zeros poked. No condition. -/
import Derived.Test.YthlmmihlehfoeaaGreatTe2
set_option linter.unusedVariables false
set_option linter.unusedSimpArgs false
namespace Go.Proofs.YthlmmihlehfoeaaGreat
open Go Go.Sx
set_option maxRecDepth 1000000
noncomputable section
theorem poQ13 : (List.range 13).all (okPo false 13) = true := by kernel_rfl
theorem poK18 : (List.range 18).all (okPo true 18) = true := by kernel_rfl
theorem poK8 : (List.range 8).all (okPo true 8) = true := by kernel_rfl
theorem poK3 : (List.range 3).all (okPo true 3) = true := by kernel_rfl
theorem poQ5 : (List.range 5).all (okPo false 5) = true := by kernel_rfl
end
end Go.Proofs.YthlmmihlehfoeaaGreat

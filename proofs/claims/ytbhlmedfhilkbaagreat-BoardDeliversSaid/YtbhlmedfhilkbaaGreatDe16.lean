/- BoardDelivers: divisions. No condition. -/
import Derived.Test.YtbhlmedfhilkbaaGreatDe5
set_option linter.unusedVariables false
set_option linter.unusedSimpArgs false
namespace Go.Proofs.YtbhlmedfhilkbaaGreat
open Go Go.Sx
set_option maxRecDepth 1000000
noncomputable def sayBE : Bool := oSays CD (smKnow CD (K9 9 0)) 600 20 none' no' 5 (symArgs pksD 0) .nil 0 (bF true ++ facE 9)
theorem b0E : sayBE = true := by kernel_rfl
theorem b0_0 : sayB 0 false = true := by kernel_rfl
theorem b0_1 : sayB 1 false = true := by kernel_rfl
theorem b0_2 : sayB 2 false = true := by kernel_rfl
theorem b0_3 : sayB 3 false = true := by kernel_rfl
end Go.Proofs.YtbhlmedfhilkbaaGreat

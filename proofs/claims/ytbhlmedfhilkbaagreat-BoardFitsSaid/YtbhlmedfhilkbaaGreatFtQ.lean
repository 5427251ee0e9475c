/- BoardFits: the cases of Q. No condition. -/
import Derived.Test.YtbhlmedfhilkbaaGreatSn1
set_option linter.unusedSimpArgs false
set_option linter.unusedVariables false
set_option linter.unusedSectionVars false
namespace Go.Proofs.YtbhlmedfhilkbaaGreat
open Go Go.Sx
set_option maxRecDepth 1000000
theorem fitsQ1 : (List.range 8).all (rF false true) = true := by kernel_rfl
theorem fitsQ0 : (List.range 8).all (rF false false) = true := by kernel_rfl
end Go.Proofs.YtbhlmedfhilkbaaGreat

/- The reference's Fetch where it is known whether the byte may be fetched. No condition. -/
import Derived.Test.YtbhlmedfhilkbaaGreatKc0
import Derived.Test.YtbhlmedfhilkbaaGreatRm2
set_option linter.unusedSimpArgs false
set_option linter.unusedVariables false
set_option linter.unusedSectionVars false
namespace Go.Proofs.YtbhlmedfhilkbaaGreat
open Go Go.Sx
set_option maxRecDepth 1000000
noncomputable section
section
variable{G:Nat->Int->Int->Int->Int}(hB:cX G)
include hB
end
end
end Go.Proofs.YtbhlmedfhilkbaaGreat
namespace Go.Proofs.YtbhlmedfhilkbaaGreat
open Go Go.Sx
set_option maxRecDepth 1000000
noncomputable section
end
end Go.Proofs.YtbhlmedfhilkbaaGreat

/- Part SpK. No condition. -/
import Derived.Test.YtbhlmedfhilkbaaGreatNmK
set_option linter.all false
namespace Go.Proofs.YtbhlmedfhilkbaaGreat
open Go Go.Sx
set_option maxRecDepth 1000000
noncomputable section
end
end Go.Proofs.YtbhlmedfhilkbaaGreat

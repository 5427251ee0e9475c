/- BoardDelivers: closed facts of its row. No condition. -/
import Derived.Test.YtbhlmedfhilkbaaGreatRows
set_option linter.unusedVariables false
set_option linter.unusedSimpArgs false
namespace Go.Proofs.YtbhlmedfhilkbaaGreat.delivers
open Go
set_option maxRecDepth 1000000
theorem f_recurses : (Rows.boardDeliversRow.recurses == Tryz.prog.recurses 5) = true := by kernel_rfl
theorem f_named : (Rows.boardDeliversRow.named == Tryz.prog.varsNamed 5) = true := by kernel_rfl
end Go.Proofs.YtbhlmedfhilkbaaGreat.delivers

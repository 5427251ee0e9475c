/- BoardFits: closed facts of its row. No condition. -/
import Derived.Test.YtbhlmedfhilkbaaGreatRows
set_option linter.unusedSimpArgs false
set_option linter.unusedVariables false
set_option linter.unusedSectionVars false
namespace Go.Proofs.YtbhlmedfhilkbaaGreat.fits
open Go
set_option maxRecDepth 1000000
theorem f_recurses : (Rows.boardFitsRow.recurses == Tryz.prog.recurses 12) = true := by kernel_rfl
theorem f_named : (Rows.boardFitsRow.named == Tryz.prog.varsNamed 12) = true := by kernel_rfl
end Go.Proofs.YtbhlmedfhilkbaaGreat.fits

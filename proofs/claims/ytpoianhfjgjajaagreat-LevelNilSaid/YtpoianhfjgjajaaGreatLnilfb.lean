/- LevelNil: closed facts of its row. No condition. -/
import Derived.Test.YtpoianhfjgjajaaGreatRows
namespace Go.Proofs.YtpoianhfjgjajaaGreat.nil
open Go
set_option maxRecDepth 1000000
theorem f_recurses : (Rows.levelNilRow.recurses == Tryz.prog.recurses 3) = true := by kernel_rfl
theorem f_named : (Rows.levelNilRow.named == Tryz.prog.varsNamed 3) = true := by kernel_rfl
end Go.Proofs.YtpoianhfjgjajaaGreat.nil

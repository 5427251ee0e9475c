/- LevelNil: closed facts of its row. No condition. -/
import Derived.Test.YtpoianhfjgjajaaGreatRows
namespace Go.Proofs.YtpoianhfjgjajaaGreat.nil
open Go
set_option maxRecDepth 1000000
theorem f_inPlace : (Rows.levelNilRow.inPlace == Tryz.prog.inPlace 3) = true := by kernel_rfl
theorem f_unfollowed : (Rows.levelNilRow.unfollowed == Tryz.prog.unfollowed 3) = true := by kernel_rfl
end Go.Proofs.YtpoianhfjgjajaaGreat.nil

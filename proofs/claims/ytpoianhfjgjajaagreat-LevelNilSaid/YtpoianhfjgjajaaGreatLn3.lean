/- LevelNil: zeros poked, the first half of the pages. No condition. -/
import Derived.Test.YtpoianhfjgjajaaGreatLn2
namespace Go.Proofs.YtpoianhfjgjajaaGreat.nil
open Go Go.Sx
set_option maxRecDepth 1000000
noncomputable section
theorem poA : (List.range 32).all okPo = true := by kernel_rfl
end
end Go.Proofs.YtpoianhfjgjajaaGreat.nil

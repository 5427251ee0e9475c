/- LevelNil: the loops' contracts hold; the examples of the document. No condition. -/
import Derived.Test.YtpoianhfjgjajaaGreatLn3
import Derived.Test.YtpoianhfjgjajaaGreatLn4
namespace Go.Proofs.YtpoianhfjgjajaaGreat.nil
open Go Go.Sx
set_option maxRecDepth 1000000
noncomputable section
def loopsP : List LCon := lCo 0 :: lCo 1 :: lCo 2 :: (List.range 64).map lPo
def KS : Know := ⟨[cO1, cO2], loopsP⟩
def cSane : Con := { g := 4, args := [], res := .bool (.lit true) }
theorem sane0 : cSane.runsK PR KS 600 40 = true := by kernel_rfl
end
end Go.Proofs.YtpoianhfjgjajaaGreat.nil

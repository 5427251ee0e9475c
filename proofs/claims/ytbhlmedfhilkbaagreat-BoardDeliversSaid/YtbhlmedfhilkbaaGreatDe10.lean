/- BoardDelivers: instructions that do not trap, or are not looked at. No condition. -/
import Derived.Test.YtbhlmedfhilkbaaGreatDe5
set_option linter.unusedVariables false
set_option linter.unusedSimpArgs false
namespace Go.Proofs.YtbhlmedfhilkbaaGreat
open Go Go.Sx
set_option maxRecDepth 1000000
theorem e0 : sayE 0 = true := by kernel_rfl
theorem e1 : sayE 1 = true := by kernel_rfl
theorem e2 : sayE 2 = true := by kernel_rfl
theorem e3 : sayE 3 = true := by kernel_rfl
theorem e4 : sayE 4 = true := by kernel_rfl
theorem e5 : sayE 5 = true := by kernel_rfl
theorem e6 : sayE 6 = true := by kernel_rfl
theorem e7 : sayE 7 = true := by kernel_rfl
theorem e8 : sayE 8 = true := by kernel_rfl
theorem e10 : sayE 10 = true := by kernel_rfl
theorem e11 : sayE 11 = true := by kernel_rfl
theorem e12 : sayE 12 = true := by kernel_rfl
theorem e13 : sayE 13 = true := by kernel_rfl
theorem e14 : sayE 14 = true := by kernel_rfl
theorem e15 : sayE 15 = true := by kernel_rfl
theorem e16 : sayE 16 = true := by kernel_rfl
end Go.Proofs.YtbhlmedfhilkbaaGreat

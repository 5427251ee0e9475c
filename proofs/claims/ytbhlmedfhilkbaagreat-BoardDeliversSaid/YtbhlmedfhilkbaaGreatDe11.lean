/- BoardDelivers: instructions that do not trap, or are not looked at (the others). No condition. -/
import Derived.Test.YtbhlmedfhilkbaaGreatDe5
set_option linter.unusedVariables false
set_option linter.unusedSimpArgs false
namespace Go.Proofs.YtbhlmedfhilkbaaGreat
open Go Go.Sx
set_option maxRecDepth 1000000
theorem e17 : sayE 17 = true := by kernel_rfl
theorem e18 : sayE 18 = true := by kernel_rfl
theorem e23 : sayE 23 = true := by kernel_rfl
theorem e24 : sayE 24 = true := by kernel_rfl
theorem e25 : sayE 25 = true := by kernel_rfl
theorem e26 : sayE 26 = true := by kernel_rfl
theorem e27 : sayE 27 = true := by kernel_rfl
theorem e28 : sayE 28 = true := by kernel_rfl
theorem e29 : sayE 29 = true := by kernel_rfl
theorem e30 : sayE 30 = true := by kernel_rfl
theorem e31 : sayE 31 = true := by kernel_rfl
theorem e34 : sayE 34 = true := by kernel_rfl
theorem e35 : sayE 35 = true := by kernel_rfl
theorem e36 : sayE 36 = true := by kernel_rfl
theorem e37 : sayE 37 = true := by kernel_rfl
theorem e38 : sayE 38 = true := by kernel_rfl
end Go.Proofs.YtbhlmedfhilkbaaGreat

/- BoardDelivers: the examples of the document; the functions that the law's run speaks of. No condition. -/
import Derived.Test.YtbhlmedfhilkbaaGreatDe1
set_option linter.unusedVariables false
set_option linter.unusedSimpArgs false
namespace Go.Proofs.YtbhlmedfhilkbaaGreat
open Go Go.Sx
set_option maxRecDepth 1000000
noncomputable section
def cSane : Con := { g := 13, args := [], res := .bool (.lit true) }
theorem sane0 : cSane.runs PR [] 300 30 = true := by kernel_rfl
theorem wfSane : cSane.wf = true := by kernel_rfl
theorem sane {G : Nat → Int → Int → Int → Int} {GH : Nat → Ghost} : cSane.Ok PR G GH := Con.of_run mixed ConsOk.nil 300 30 sane0
end
end Go.Proofs.YtbhlmedfhilkbaaGreat

/- RecoveryVars: the program's function, for two of the four ways to map numbers. No condition. -/
import Derived.Test.YthcfcjkljglgfaaV0
namespace Go.Proofs.Ythcfcjkljglgfaa.vars
open Go Go.Sx Go.ChangeShapes Go.WideShapes Go.ChangeAt Go.RowKit
set_option maxRecDepth 1000000
noncomputable section
theorem ran17_0 : ((c17 0).tree Try.prog ⟨[], []⟩ 30 np no 12 []).all ((c17 0).leaf (qP (bdL []) 40)) [] = true := by kernel_rfl
theorem ok17_0 : (c17 0).Ok Try.prog G0 GH0 := Con.of_treeP mixed know0 30 np no 12 40 ran17_0
theorem ran17_1 : ((c17 1).tree Try.prog ⟨[], []⟩ 30 np no 12 []).all ((c17 1).leaf (qP (bdL []) 40)) [] = true := by kernel_rfl
theorem ok17_1 : (c17 1).Ok Try.prog G0 GH0 := Con.of_treeP mixed know0 30 np no 12 40 ran17_1
end
end Go.Proofs.Ythcfcjkljglgfaa.vars

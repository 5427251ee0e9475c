/- RecoveryVars: the program's function, for the other two ways to map numbers. No condition. -/
import Derived.Test.YthcfcjkljglgfaaV0
namespace Go.Proofs.Ythcfcjkljglgfaa.vars
open Go Go.Sx Go.ChangeShapes Go.WideShapes Go.ChangeAt Go.RowKit
set_option maxRecDepth 1000000
noncomputable section
theorem ran17_2 : ((c17 2).tree Try.prog ⟨[], []⟩ 30 np no 12 []).all ((c17 2).leaf (qP (bdL []) 40)) [] = true := by kernel_rfl
theorem ok17_2 : (c17 2).Ok Try.prog G0 GH0 := Con.of_treeP mixed know0 30 np no 12 40 ran17_2
theorem ran17_3 : ((c17 3).tree Try.prog ⟨[], []⟩ 30 np no 12 []).all ((c17 3).leaf (qP (bdL []) 40)) [] = true := by kernel_rfl
theorem ok17_3 : (c17 3).Ok Try.prog G0 GH0 := Con.of_treeP mixed know0 30 np no 12 40 ran17_3
end
end Go.Proofs.Ythcfcjkljglgfaa.vars

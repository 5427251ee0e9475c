/- RecoveryVars: the reference's function. No condition. -/
import Derived.Test.YthcfcjkljglgfaaV0
namespace Go.Proofs.Ythcfcjkljglgfaa.vars
open Go Go.Sx Go.ChangeShapes Go.WideShapes Go.ChangeAt Go.RowKit
set_option maxRecDepth 1000000
noncomputable section
theorem ran18 : (c18.tree Try.prog ⟨[], []⟩ 30 np no 12 []).all (c18.leaf (qP (bdL []) 40)) [] = true := by kernel_rfl
theorem ok18 : c18.Ok Try.prog G0 GH0 := Con.of_treeP mixed know0 30 np no 12 40 ran18
end
end Go.Proofs.Ythcfcjkljglgfaa.vars

/- A state that is normal stays so: the runs of a step of K. No condition. -/
import Derived.Test.YtbhlmedfhilkbaaGreatBi3
import Derived.Test.YtbhlmedfhilkbaaGreatKc0
import Derived.Test.YtbhlmedfhilkbaaGreatQd5
set_option linter.unusedSimpArgs false
set_option linter.unusedVariables false
set_option linter.unusedSectionVars false
namespace Go.Proofs.YtbhlmedfhilkbaaGreat
open Go Go.Sx
set_option maxRecDepth 1000000
noncomputable section
theorem nrmK_0:aj kj tKs (fun _=>nrmLeaf da FKS true) (nrmZ true eS) (bm 0)=true:=by kernel_rfl
theorem nrmK_1:aj kj tKs (fun _=>nrmLeaf da FKS true) (nrmZ true eS) (bm 1)=true:=by kernel_rfl
theorem nrmK_2:aj kj tKs (fun _=>nrmLeaf da FKS true) (nrmZ true eS) (bm 2)=true:=by kernel_rfl
theorem nrmK_3:aj kj tKs (fun _=>nrmLeaf da FKS true) (nrmZ true eS) (bm 3)=true:=by kernel_rfl
theorem nrmK_4:aj kj tKs (fun _=>nrmLeaf da FKS true) (nrmZ true eS) (bm 4)=true:=by kernel_rfl
theorem nrmK_5:aj kj tKs (fun _=>nrmLeaf da FKS true) (nrmZ true eS) (bm 5)=true:=by kernel_rfl
theorem nrmK_6:aj kj tKs (fun _=>nrmLeaf da FKS true) (nrmZ true eS) (bm 6)=true:=by kernel_rfl
end
end Go.Proofs.YtbhlmedfhilkbaaGreat
namespace Go.Proofs.YtbhlmedfhilkbaaGreat
open Go Go.Sx
set_option maxRecDepth 1000000
noncomputable section
theorem nrmQ_A:aj opS tSt (fun _=>nrmLeaf gO FS false) (nrmZ false eS) BK=true:=by kernel_rfl
theorem nrmQ_B:aj opS tSt (fun _=>nrmLeaf gO FS false) (nrmZ false eS) x8=true:=by kernel_rfl
end
end Go.Proofs.YtbhlmedfhilkbaaGreat

/- Part Mr4. No condition. -/
import Derived.Test.YtbhlmedfhilkbaaGreatQr4
import Derived.Test.YtbhlmedfhilkbaaGreatKc0
set_option linter.all false
namespace Go.Proofs.YtbhlmedfhilkbaaGreat
open Go Go.Sx
set_option maxRecDepth 1000000
noncomputable section
theorem Ul:aj kj tKs (fun _=>dy da FKS) [] (bm 0)=true:=by kernel_rfl
theorem Ty:aj kj tKs (fun _=>dy da FKS) [] (bm 1)=true:=by kernel_rfl
theorem TU:aj kj tKs (fun _=>dy da FKS) [] (bm 2)=true:=by kernel_rfl
theorem TC:aj kj tKs (fun _=>dy da FKS) [] (bm 3)=true:=by kernel_rfl
theorem TO:aj kj tKs (fun _=>dy da FKS) [] (bm 4)=true:=by kernel_rfl
theorem S3:aj kj tKs (fun _=>dy da FKS) [] (bm 5)=true:=by kernel_rfl
theorem T0:aj kj tKs (fun _=>dy da FKS) [] (bm 6)=true:=by kernel_rfl
end
end Go.Proofs.YtbhlmedfhilkbaaGreat

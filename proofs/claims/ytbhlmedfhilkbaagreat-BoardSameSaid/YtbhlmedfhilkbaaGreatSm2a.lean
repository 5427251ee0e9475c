/- BoardSame: cases. No condition. -/
import Derived.Test.YtbhlmedfhilkbaaGreatVi1
set_option linter.unusedSimpArgs false
set_option linter.unusedVariables false
set_option linter.unusedSectionVars false
namespace Go.Proofs.YtbhlmedfhilkbaaGreat
open Go Go.Sx
set_option maxRecDepth 1000000
noncomputable section
theorem sam_a0:rSam true true 0=true:=by kernel_rfl
theorem sam_a1:rSam true true 1=true:=by kernel_rfl
theorem sam_a2:rSam true true 2=true:=by kernel_rfl
theorem sam_a3:rSam true true 3=true:=by kernel_rfl
theorem sam_a4:rSam true true 4=true:=by kernel_rfl
theorem sam_a5:rSam true true 5=true:=by kernel_rfl
theorem sam_a6:rSam true true 6=true:=by kernel_rfl
end
end Go.Proofs.YtbhlmedfhilkbaaGreat
namespace Go.Proofs.YtbhlmedfhilkbaaGreat
open Go Go.Sx
set_option maxRecDepth 1000000
noncomputable section
theorem sam_b0:rSam true false 0=true:=by kernel_rfl
theorem sam_b1:rSam true false 1=true:=by kernel_rfl
theorem sam_b2:rSam true false 2=true:=by kernel_rfl
theorem sam_b3:rSam true false 3=true:=by kernel_rfl
theorem sam_b4:rSam true false 4=true:=by kernel_rfl
theorem sam_b5:rSam true false 5=true:=by kernel_rfl
theorem sam_b6:rSam true false 6=true:=by kernel_rfl
end
end Go.Proofs.YtbhlmedfhilkbaaGreat

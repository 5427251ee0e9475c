/- BoardRuns: a case. No condition. -/
import Derived.Test.YtbhlmedfhilkbaaGreatBr7
import Derived.Test.YtbhlmedfhilkbaaGreatRna
import Derived.Test.YtbhlmedfhilkbaaGreatRnb
set_option linter.unusedSimpArgs false
set_option linter.unusedVariables false
set_option linter.unusedSectionVars false
namespace Go.Proofs.YtbhlmedfhilkbaaGreat
open Go Go.Sx
set_option maxRecDepth 1000000
noncomputable section
theorem runs_d:rL 6 false false []=true:=by kernel_rfl
end
end Go.Proofs.YtbhlmedfhilkbaaGreat
namespace Go.Proofs.YtbhlmedfhilkbaaGreat
open Go Go.Sx
set_option maxRecDepth 1000000
noncomputable section
theorem runs_ok{G:Nat->Int->Int->Int->Int}(hG:LawG G):(Ti 6).Ok PR G gh:=ac2 hG fun coh l=>match coh,l with
 |true,true=>aeb hG runs_a
 |true,false=>aeb hG runs_b
 |false,true=>aeb hG runs_c
 |false,false=>aeb hG runs_d
end
end Go.Proofs.YtbhlmedfhilkbaaGreat

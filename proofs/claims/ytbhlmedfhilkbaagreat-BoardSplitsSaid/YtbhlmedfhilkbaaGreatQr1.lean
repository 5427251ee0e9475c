/- The reference's fetching of Q: the program's function of the memory and the address. No condition. -/
import Derived.Test.YtbhlmedfhilkbaaGreatRm2
import Derived.Test.YtbhlmedfhilkbaaGreatQd5
set_option linter.unusedSimpArgs false
set_option linter.unusedVariables false
set_option linter.unusedSectionVars false
namespace Go.Proofs.YtbhlmedfhilkbaaGreat
open Go Go.Sx
set_option maxRecDepth 1000000
noncomputable section
section
variable{G:Nat->Int->Int->Int->Int}(hB:cX G)(hD:FD.Def G kT)(hF:FF.Def G pa)
include hB hD
include hF
end
end
end Go.Proofs.YtbhlmedfhilkbaaGreat
namespace Go.Proofs.YtbhlmedfhilkbaaGreat
open Go Go.Sx
set_option maxRecDepth 1000000
noncomputable section
end
end Go.Proofs.YtbhlmedfhilkbaaGreat
namespace Go.Proofs.YtbhlmedfhilkbaaGreat
open Go Go.Sx
set_option maxRecDepth 1000000
noncomputable section
def adk(F:Fns):List ab:=dgL F aW 0++[.int .i64 (dg F .u8 24),.int .u32 (dg F .u32 25)]
def th:Con:={g:=84,args:=[stA,pm],os:=[dZ 2 (.var 0)],res:= .agg (adk FS),os':=[.ghost 2 [Z0] (mu 2)]}
section
variable{G:Nat->Int->Int->Int->Int}(hB:cX G)(hD:FD.Def G kT)(hF:FF.Def G pa)(hS:FS.Def G BQ)
include hB hD hF
include hS
end
end
end Go.Proofs.YtbhlmedfhilkbaaGreat

/- BoardRuns: closed facts of its row. No condition. -/
import Derived.Test.YtbhlmedfhilkbaaGreatRows
set_option linter.unusedSimpArgs false
set_option linter.unusedVariables false
set_option linter.unusedSectionVars false
namespace Go.Proofs.YtbhlmedfhilkbaaGreat.runs
open Go
set_option maxRecDepth 1000000
theorem f_inPlace:(Rows.boardRunsRow.inPlace==Tryz.prog.inPlace 6)=true:=by kernel_rfl
theorem f_unfollowed:(Rows.boardRunsRow.unfollowed==Tryz.prog.unfollowed 6)=true:=by kernel_rfl
end Go.Proofs.YtbhlmedfhilkbaaGreat.runs
namespace Go.Proofs.YtbhlmedfhilkbaaGreat.runs
open Go
set_option maxRecDepth 1000000
theorem f_recurses:(Rows.boardRunsRow.recurses==Tryz.prog.recurses 6)=true:=by kernel_rfl
theorem f_named:(Rows.boardRunsRow.named==Tryz.prog.varsNamed 6)=true:=by kernel_rfl
end Go.Proofs.YtbhlmedfhilkbaaGreat.runs
namespace Go.Proofs.YtbhlmedfhilkbaaGreat.runs
open Go
set_option maxRecDepth 1000000
theorem f_mapsRowed:mapsRowed Tryz.prog=true:=by kernel_rfl
theorem f_stopsHeard:Tryz.prog.stopsHeard=true:=by kernel_rfl
theorem f_mayEnter:Tryz.prog.mayEnter=true:=by kernel_rfl
end Go.Proofs.YtbhlmedfhilkbaaGreat.runs

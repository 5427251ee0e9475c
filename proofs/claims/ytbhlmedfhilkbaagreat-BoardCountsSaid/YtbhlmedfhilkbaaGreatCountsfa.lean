/- BoardCounts: closed facts of its row. No condition. -/
import Derived.Test.YtbhlmedfhilkbaaGreatRows
set_option linter.unusedSimpArgs false
set_option linter.unusedVariables false
set_option linter.unusedSectionVars false
namespace Go.Proofs.YtbhlmedfhilkbaaGreat.counts
open Go
set_option maxRecDepth 1000000
theorem f_inPlace:(Rows.boardCountsRow.inPlace==Tryz.prog.inPlace 8)=true:=by kernel_rfl
theorem f_unfollowed:(Rows.boardCountsRow.unfollowed==Tryz.prog.unfollowed 8)=true:=by kernel_rfl
end Go.Proofs.YtbhlmedfhilkbaaGreat.counts
namespace Go.Proofs.YtbhlmedfhilkbaaGreat.counts
open Go
set_option maxRecDepth 1000000
theorem f_recurses:(Rows.boardCountsRow.recurses==Tryz.prog.recurses 8)=true:=by kernel_rfl
theorem f_named:(Rows.boardCountsRow.named==Tryz.prog.varsNamed 8)=true:=by kernel_rfl
end Go.Proofs.YtbhlmedfhilkbaaGreat.counts
namespace Go.Proofs.YtbhlmedfhilkbaaGreat.counts
open Go
set_option maxRecDepth 1000000
theorem f_mapsRowed:mapsRowed Tryz.prog=true:=by kernel_rfl
theorem f_stopsHeard:Tryz.prog.stopsHeard=true:=by kernel_rfl
theorem f_mayEnter:Tryz.prog.mayEnter=true:=by kernel_rfl
end Go.Proofs.YtbhlmedfhilkbaaGreat.counts

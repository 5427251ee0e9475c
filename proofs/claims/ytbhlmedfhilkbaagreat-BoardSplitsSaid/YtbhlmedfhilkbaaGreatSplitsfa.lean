/- BoardSplits: closed facts of its row. No condition. -/
import Derived.Test.YtbhlmedfhilkbaaGreatRows
set_option linter.unusedSimpArgs false
set_option linter.unusedVariables false
set_option linter.unusedSectionVars false
namespace Go.Proofs.YtbhlmedfhilkbaaGreat.splits
open Go
set_option maxRecDepth 1000000
theorem f_inPlace:(Rows.boardSplitsRow.inPlace==Tryz.prog.inPlace 9)=true:=by kernel_rfl
theorem f_unfollowed:(Rows.boardSplitsRow.unfollowed==Tryz.prog.unfollowed 9)=true:=by kernel_rfl
end Go.Proofs.YtbhlmedfhilkbaaGreat.splits
namespace Go.Proofs.YtbhlmedfhilkbaaGreat.splits
open Go
set_option maxRecDepth 1000000
theorem f_recurses:(Rows.boardSplitsRow.recurses==Tryz.prog.recurses 9)=true:=by kernel_rfl
theorem f_named:(Rows.boardSplitsRow.named==Tryz.prog.varsNamed 9)=true:=by kernel_rfl
end Go.Proofs.YtbhlmedfhilkbaaGreat.splits
namespace Go.Proofs.YtbhlmedfhilkbaaGreat.splits
open Go
set_option maxRecDepth 1000000
theorem f_mapsRowed:mapsRowed Tryz.prog=true:=by kernel_rfl
theorem f_stopsHeard:Tryz.prog.stopsHeard=true:=by kernel_rfl
theorem f_mayEnter:Tryz.prog.mayEnter=true:=by kernel_rfl
end Go.Proofs.YtbhlmedfhilkbaaGreat.splits

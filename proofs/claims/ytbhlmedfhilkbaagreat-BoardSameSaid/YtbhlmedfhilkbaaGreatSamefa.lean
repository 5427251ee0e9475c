/- BoardSame: closed facts of its row. No condition. -/
import Derived.Test.YtbhlmedfhilkbaaGreatRows
set_option linter.unusedSimpArgs false
set_option linter.unusedVariables false
set_option linter.unusedSectionVars false
namespace Go.Proofs.YtbhlmedfhilkbaaGreat.sams
open Go
set_option maxRecDepth 1000000
theorem f_inPlace:(Rows.boardSameRow.inPlace==Tryz.prog.inPlace 3)=true:=by kernel_rfl
theorem f_unfollowed:(Rows.boardSameRow.unfollowed==Tryz.prog.unfollowed 3)=true:=by kernel_rfl
end Go.Proofs.YtbhlmedfhilkbaaGreat.sams
namespace Go.Proofs.YtbhlmedfhilkbaaGreat.sams
open Go
set_option maxRecDepth 1000000
theorem f_recurses:(Rows.boardSameRow.recurses==Tryz.prog.recurses 3)=true:=by kernel_rfl
theorem f_named:(Rows.boardSameRow.named==Tryz.prog.varsNamed 3)=true:=by kernel_rfl
end Go.Proofs.YtbhlmedfhilkbaaGreat.sams
namespace Go.Proofs.YtbhlmedfhilkbaaGreat.sams
open Go
set_option maxRecDepth 1000000
theorem f_mapsRowed:mapsRowed Tryz.prog=true:=by kernel_rfl
theorem f_stopsHeard:Tryz.prog.stopsHeard=true:=by kernel_rfl
theorem f_mayEnter:Tryz.prog.mayEnter=true:=by kernel_rfl
end Go.Proofs.YtbhlmedfhilkbaaGreat.sams

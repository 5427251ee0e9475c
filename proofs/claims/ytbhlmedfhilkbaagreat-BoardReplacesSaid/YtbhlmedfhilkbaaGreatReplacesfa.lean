/- BoardReplaces: closed facts of its row. No condition. -/
import Derived.Test.YtbhlmedfhilkbaaGreatRows
set_option linter.unusedSimpArgs false
set_option linter.unusedVariables false
set_option linter.unusedSectionVars false
namespace Go.Proofs.YtbhlmedfhilkbaaGreat.reps
open Go
set_option maxRecDepth 1000000
theorem f_inPlace:(Rows.boardReplacesRow.inPlace==Tryz.prog.inPlace 10)=true:=by kernel_rfl
theorem f_unfollowed:(Rows.boardReplacesRow.unfollowed==Tryz.prog.unfollowed 10)=true:=by kernel_rfl
end Go.Proofs.YtbhlmedfhilkbaaGreat.reps
namespace Go.Proofs.YtbhlmedfhilkbaaGreat.reps
open Go
set_option maxRecDepth 1000000
theorem f_recurses:(Rows.boardReplacesRow.recurses==Tryz.prog.recurses 10)=true:=by kernel_rfl
theorem f_named:(Rows.boardReplacesRow.named==Tryz.prog.varsNamed 10)=true:=by kernel_rfl
end Go.Proofs.YtbhlmedfhilkbaaGreat.reps
namespace Go.Proofs.YtbhlmedfhilkbaaGreat.reps
open Go
set_option maxRecDepth 1000000
theorem f_mapsRowed:mapsRowed Tryz.prog=true:=by kernel_rfl
theorem f_stopsHeard:Tryz.prog.stopsHeard=true:=by kernel_rfl
theorem f_mayEnter:Tryz.prog.mayEnter=true:=by kernel_rfl
end Go.Proofs.YtbhlmedfhilkbaaGreat.reps

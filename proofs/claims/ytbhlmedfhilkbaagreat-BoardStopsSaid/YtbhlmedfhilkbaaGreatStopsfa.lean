/- BoardStops: closed facts of its row. No condition. -/
import Derived.Test.YtbhlmedfhilkbaaGreatRows
set_option linter.unusedSimpArgs false
set_option linter.unusedVariables false
set_option linter.unusedSectionVars false
namespace Go.Proofs.YtbhlmedfhilkbaaGreat.stops
open Go
set_option maxRecDepth 1000000
theorem f_inPlace:(Rows.boardStopsRow.inPlace==Tryz.prog.inPlace 7)=true:=by kernel_rfl
theorem f_unfollowed:(Rows.boardStopsRow.unfollowed==Tryz.prog.unfollowed 7)=true:=by kernel_rfl
end Go.Proofs.YtbhlmedfhilkbaaGreat.stops
namespace Go.Proofs.YtbhlmedfhilkbaaGreat.stops
open Go
set_option maxRecDepth 1000000
theorem f_recurses:(Rows.boardStopsRow.recurses==Tryz.prog.recurses 7)=true:=by kernel_rfl
theorem f_named:(Rows.boardStopsRow.named==Tryz.prog.varsNamed 7)=true:=by kernel_rfl
end Go.Proofs.YtbhlmedfhilkbaaGreat.stops
namespace Go.Proofs.YtbhlmedfhilkbaaGreat.stops
open Go
set_option maxRecDepth 1000000
theorem f_mapsRowed:mapsRowed Tryz.prog=true:=by kernel_rfl
theorem f_stopsHeard:Tryz.prog.stopsHeard=true:=by kernel_rfl
theorem f_mayEnter:Tryz.prog.mayEnter=true:=by kernel_rfl
end Go.Proofs.YtbhlmedfhilkbaaGreat.stops

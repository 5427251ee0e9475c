/- BoardOutputs: closed facts of its row. No condition. -/
import Derived.Test.YtbhlmedfhilkbaaGreatRows
set_option linter.unusedSimpArgs false
set_option linter.unusedVariables false
set_option linter.unusedSectionVars false
namespace Go.Proofs.YtbhlmedfhilkbaaGreat.outs
open Go
set_option maxRecDepth 1000000
theorem f_inPlace:(Rows.boardOutputsRow.inPlace==Tryz.prog.inPlace 4)=true:=by kernel_rfl
theorem f_unfollowed:(Rows.boardOutputsRow.unfollowed==Tryz.prog.unfollowed 4)=true:=by kernel_rfl
end Go.Proofs.YtbhlmedfhilkbaaGreat.outs
namespace Go.Proofs.YtbhlmedfhilkbaaGreat.outs
open Go
set_option maxRecDepth 1000000
theorem f_recurses:(Rows.boardOutputsRow.recurses==Tryz.prog.recurses 4)=true:=by kernel_rfl
theorem f_named:(Rows.boardOutputsRow.named==Tryz.prog.varsNamed 4)=true:=by kernel_rfl
end Go.Proofs.YtbhlmedfhilkbaaGreat.outs
namespace Go.Proofs.YtbhlmedfhilkbaaGreat.outs
open Go
set_option maxRecDepth 1000000
theorem f_mapsRowed:mapsRowed Tryz.prog=true:=by kernel_rfl
theorem f_stopsHeard:Tryz.prog.stopsHeard=true:=by kernel_rfl
theorem f_mayEnter:Tryz.prog.mayEnter=true:=by kernel_rfl
end Go.Proofs.YtbhlmedfhilkbaaGreat.outs

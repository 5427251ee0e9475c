/- Part Tkindsfa. No condition. -/
import Derived.Test.YtpdhneemedlgaaaGreatRows
set_option linter.all false
namespace Go.Proofs.YtpdhneemedlgaaaGreat.tkinds
open Go
set_option maxRecDepth 1000000
theorem f_inPlace:(Rows.towerKindsRow.inPlace==Tryz.prog.inPlace 3)=true:=by kernel_rfl
theorem f_unfollowed:(Rows.towerKindsRow.unfollowed==Tryz.prog.unfollowed 3)=true:=by kernel_rfl
end Go.Proofs.YtpdhneemedlgaaaGreat.tkinds
namespace Go.Proofs.YtpdhneemedlgaaaGreat.tkinds
open Go
set_option maxRecDepth 1000000
theorem f_recurses:(Rows.towerKindsRow.recurses==Tryz.prog.recurses 3)=true:=by kernel_rfl
theorem f_named:(Rows.towerKindsRow.named==Tryz.prog.varsNamed 3)=true:=by kernel_rfl
end Go.Proofs.YtpdhneemedlgaaaGreat.tkinds
namespace Go.Proofs.YtpdhneemedlgaaaGreat.tkinds
open Go
set_option maxRecDepth 1000000
theorem f_mapsRowed:mapsRowed Tryz.prog=true:=by kernel_rfl
theorem f_stopsHeard:Tryz.prog.stopsHeard=true:=by kernel_rfl
theorem f_mayEnter:Tryz.prog.mayEnter=true:=by kernel_rfl
end Go.Proofs.YtpdhneemedlgaaaGreat.tkinds

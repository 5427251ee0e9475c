/- Part Ue5. No condition. -/
import Derived.Test.YtpdhneemedlgaaaGreatUe1
set_option linter.all false
namespace Go.Proofs.YtpdhneemedlgaaaGreat.te
open Go Go.Sx
set_option maxRecDepth 1000000
noncomputable section
theorem D8:(List.range 8).all (fun p=>su (Dj 8 p) tyK lV 8 p)=true:=by kernel_rfl
theorem DZ:(List.range 13).all (fun p=>su (zG 13 p) tyQ lV 13 p)=true:=by kernel_rfl
theorem E6:(List.range 13).all (fun p=>su (zE 13 18 p) tyL qV 13 p)=true:=by kernel_rfl
theorem Ez:(List.range 8).all (fun p=>su (yY 8 13 p) tyL kV 8 p)=true:=by kernel_rfl
end
end Go.Proofs.YtpdhneemedlgaaaGreat.te

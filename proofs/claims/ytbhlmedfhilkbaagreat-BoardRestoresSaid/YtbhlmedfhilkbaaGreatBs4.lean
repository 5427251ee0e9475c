/- Part Bs4. No condition. -/
import Derived.Test.YtbhlmedfhilkbaaGreatRm2
set_option linter.all false
namespace Go.Proofs.YtbhlmedfhilkbaaGreat
open Go Go.Sx
set_option maxRecDepth 1000000
theorem U7:se 3=true:=by kernel_rfl
theorem Tk:se 4=true:=by kernel_rfl
theorem VD:se 5=true:=by kernel_rfl
end Go.Proofs.YtbhlmedfhilkbaaGreat
namespace Go.Proofs.YtbhlmedfhilkbaaGreat
open Go Go.Sx
set_option maxRecDepth 1000000
theorem Ux:qI 0=true:=by kernel_rfl
theorem VJ:qI 1=true:=by kernel_rfl
theorem VE:qI 2=true:=by kernel_rfl
end Go.Proofs.YtbhlmedfhilkbaaGreat

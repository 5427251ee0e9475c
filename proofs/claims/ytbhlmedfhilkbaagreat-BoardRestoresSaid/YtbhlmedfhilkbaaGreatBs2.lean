/- Part Bs2. No condition. -/
import Derived.Test.YtbhlmedfhilkbaaGreatRm2
set_option linter.all false
namespace Go.Proofs.YtbhlmedfhilkbaaGreat
open Go Go.Sx
set_option maxRecDepth 1000000
theorem VG:rI 0=true:=by kernel_rfl
theorem U2:rI 1=true:=by kernel_rfl
theorem SW:rI 2=true:=by kernel_rfl
theorem SS:rI 3=true:=by kernel_rfl
theorem Un:rI 4=true:=by kernel_rfl
theorem VI:rI 5=true:=by kernel_rfl
end Go.Proofs.YtbhlmedfhilkbaaGreat
namespace Go.Proofs.YtbhlmedfhilkbaaGreat
open Go Go.Sx
set_option maxRecDepth 1000000
theorem Vz:se 0=true:=by kernel_rfl
theorem U1:se 1=true:=by kernel_rfl
theorem Vi:se 2=true:=by kernel_rfl
end Go.Proofs.YtbhlmedfhilkbaaGreat

/- Part Rm1. No condition. -/
import Derived.Test.YtpdhneemedlgaaaGreatBd5
set_option linter.all false
namespace Go.Proofs.YtpdhneemedlgaaaGreat
open Go Go.Sx
set_option maxRecDepth 1000000
noncomputable section
def kE(i:Nat)(r:Int):IE:= .sel true (adE i) dW (.sel false (.rem (.wrap .i64 (.quo (.wrap .i64 (.fn 0 d16 (.quo (adE i) (.lit 256)) (.lit 0))) (.lit r))) (.lit 2)) (.lit 1) (.lit 1) (.lit 0)) (.lit 0)
def v2(i:Nat):IE:=match i with
 |0=> .var 2
 |i+1=> .quo (v2 i) (.lit 256)
end
end Go.Proofs.YtpdhneemedlgaaaGreat

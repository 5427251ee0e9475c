/- Part Tw3. No condition. -/
import Derived.Test.YtpdhneemedlgaaaGreatTw2
set_option linter.all false
namespace Go.Proofs.YtpdhneemedlgaaaGreat
open Go Go.Sx
set_option maxRecDepth 1000000
noncomputable section
def okK(a k:Nat):Bool:=(List.range (Nat.add (min k 4) 1)).all fun h=>x9 a k h 0&&(x9 a k h 1&&x9 a k h 2)
def Ei(a h:Nat):Out:=(lTk a 5 h).tree PR (KT a) 20 aG no' 14 [] (.lit 0)
def ok5(a:Nat):Bool:=(List.range 5).all fun h=>(Ei a h).all ((cTk a 5 h).leaf (qP (bdL (cTk a 5 h).bds) 12)) (cTk a 5 h).pre
theorem C6:ok5 1=true:=by kernel_rfl
theorem CO:ok5 2=true:=by kernel_rfl
theorem Cd:okK 1 0=true:=by kernel_rfl
theorem AF:okK 2 0=true:=by kernel_rfl
theorem Cg:okK 1 1=true:=by kernel_rfl
theorem zW:okK 2 1=true:=by kernel_rfl
theorem AR:okK 1 2=true:=by kernel_rfl
theorem Cq:okK 2 2=true:=by kernel_rfl
end
end Go.Proofs.YtpdhneemedlgaaaGreat

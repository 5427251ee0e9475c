/- Part Ue3. No condition. -/
import Derived.Test.YtpdhneemedlgaaaGreatUk1
set_option linter.all false
namespace Go.Proofs.YtpdhneemedlgaaaGreat.te
open Go Go.Sx
set_option maxRecDepth 1000000
noncomputable section
def i9(n:Nat)(f:Nat->ba):List ba:=(List.range n).map f
def twO:List ah:=[.cells ((T.nil.set 0 (.slice (some (1,0)) 2 2 2)).set 1 (kV 4)) 52 false 2,
 .cells ((((T.nil.set 0 (.ptr (some (2,0)))).set 1 (iL 4)).set 2 (.ptr (some (3,0)))).set 3 (iL 4)) 57 false 4,
 .cells ((T.nil.set 0 (iL 1)).set 2 (lV 3)) 90 false 45,
 .cells ((T.nil.set 0 (iL 2)).set 2 (kV 4)) 90 false 45,dead false]
def kdE(j:Nat):IE:=match j with |0=> .lit 1 |_=> .lit 2
def ju:Con:=fk twO 2 kdE 1
def Bi:List ba:=i9 13 (lPo false 13)++(i9 18 (lPo true 18)++(i9 8 (lPo true 8)++(i9 8 (Et 8)++(i9 13 (E1 13)++(i9 13 (E3 18 13)++i9 8 (EI 13 8))))))
def KS:Know:=⟨[ju],Bi⟩
def JN:Con:={g:=5,args:=[],res:= .bool (.lit true)}
theorem YN:JN.xu PR KS 600 40=true:=by kernel_rfl
end
end Go.Proofs.YtpdhneemedlgaaaGreat.te

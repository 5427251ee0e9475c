/- Part Ba. No condition. -/
import Derived.Test.YtpdhneemedlgaaaGreatSg
import Derived.Test.YtpdhneemedlgaaaGreatRows
set_option linter.all false
namespace Go.Proofs.YtpdhneemedlgaaaGreat
open Go Go.Sx
set_option maxRecDepth 1000000
noncomputable section
noncomputable abbrev PR:Program:=Tryz.prog
theorem mixed:PR.follows .mixedOrders=true:=by kernel_rfl
def aW:List IntKind:= .u32::(List.replicate 16 .u32++(.u32::(List.replicate 4 .u32++[.i64,.i64])))
def sv(x:IE):List IntKind->Nat->List ab
 | [],_=>[]
 |k::l,j=> .int k (.wrap k (.fn 0 x (.lit (.ofNat j)) (.lit 0)))::sv x l (j+1)
def b9(x:IE):List ab:=sv x aW 0
def aX(l:List ab)(j:Nat):T ab:=aF l j .nil
def pm:ab:= .ptr (some (0,0))
def uV(k:IntKind)(i:Nat):ab:= .int k (.var i)
def uF(k:IntKind)(c:Nat)(x y:IE)(z:IE:= .lit 0):ab:= .int k (.wrap k (.fn c x y z))
def bC(i:Nat):Nat×Int×Int:=(i,0,4294967295)
def u8B(i:Nat):Nat×Int×Int:=(i,0,255)
def eY(i:Nat):Nat×Int×Int:=(i,-9223372036854775808,9223372036854775807)
def aG:FuncId->Nat->Bool:=fun _ _=>false
def no':FuncId->Bool:=fun _=>false
theorem aw{ρ:Env}:Dec.holds ρ []:=fun p hp=>by cases hp
theorem bc{G:Nat->Int->Int->Int->Int}{GH:Nat->bz}:Know.Ok PR G GH ⟨[],[]⟩:=⟨bO.nil,fun _ h=>by cases h⟩
def fq(c:Con)(K:Know)(L d k:Nat):Bool:=(c.tree PR K L aG no' d []).all (c.leaf (qP (bdL c.bds) k)) c.pre
theorem bA{G:Nat->Int->Int->Int->Int}{GH:Nat->bz}{c:Con}{K:Know}{L d k:Nat}(hK:K.Ok PR G GH)(h:fq c K L d k=true):c.Ok PR G GH:=Con.q8 mixed hK L aG no' d k h
end
end Go.Proofs.YtpdhneemedlgaaaGreat

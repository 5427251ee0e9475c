/- The reference's memory: Fetch, Load, Store, in terms of its row. No condition. -/
import Derived.Test.YtbhlmedfhilkbaaGreatBd5
set_option linter.unusedSimpArgs false
set_option linter.unusedVariables false
set_option linter.unusedSectionVars false
namespace Go.Proofs.YtbhlmedfhilkbaaGreat
open Go Go.Sx
set_option maxRecDepth 1000000
noncomputable section
abbrev rfT:TypeId:=115
def Jc(g:FuncId)(args:List ab)(bds:List (Nat×Int×Int))(res:ab)(M':IE:= .var 0):Con:=rp 2 g args bds res M'
def gV(c:Con)(l:List Con)(facts:Dec)(obs:List (Dec×IE×IE))(coh:Bool)(De Re Ce:IE):Bool:=
 ((sR c rfT coh De Re Ce).tree PR ⟨l,[]⟩ 300 aG no' 12 facts).all ((sR c rfT coh De Re Ce).leaf (qX (bdL c.bds) 12 obs)) (facts++(nr coh++c.pre))
def kE(i:Nat)(r:Int):IE:= .sel true (adE i) dW (.sel false (.rem (.wrap .i64 (.quo (.wrap .i64 (.fn 0 d16 (.quo (adE i) (.lit 256)) (.lit 0))) (.lit r))) (.lit 2)) (.lit 1) (.lit 1) (.lit 0)) (.lit 0)
def rB(i:Nat):IE:= .wrap .u8 (.fn 0 d14 (adE i) (.lit 0))
def okN(e:IE):IE:= .sel false e (.lit 1) (.lit 1) (.lit 0)
def f22(r:Int):IE:= .fn 22 (.var 0) (.var 1) (.lit r)
def obF(coh:Bool):List (Dec×IE×IE):=[([],.sel false (f22 4) (.lit 1) cdE (.lit 0),.sel false (kE 0 4) (.lit 1) (.sel true (.var 1) dW (.wrap .u8 (.fn 0 (match coh with |true=>d14 |false=>d15) (.var 1) (.lit 0))) (.lit 0)) (.lit 0)),
 ([],.sel false (f22 4) (.lit 1) (.lit 0) (.var 1),.sel false (kE 0 4) (.lit 1) (.lit 0) (.var 1)),([],okN (f22 4),okN (.sel false (kE 0 4) (.lit 1) (.lit 1) (.lit 0)))]
def v2(i:Nat):IE:=match i with
 |0=> .var 2
 |i+1=> .quo (v2 i) (.lit 256)
end
end Go.Proofs.YtbhlmedfhilkbaaGreat

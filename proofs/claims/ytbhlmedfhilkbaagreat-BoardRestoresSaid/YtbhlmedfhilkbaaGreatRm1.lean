/- Part Rm1. No condition. -/
import Derived.Test.YtbhlmedfhilkbaaGreatBd5
set_option linter.all false
namespace Go.Proofs.YtbhlmedfhilkbaaGreat
open Go Go.Sx
set_option maxRecDepth 1000000
noncomputable section
abbrev rfT:TypeId:=115
def Jc(g:FuncId)(args:List ab)(bds:List (Nat×Int×Int))(res:ab)(M':IE:= .var 0):Con:=rp 2 g args bds res M'
def gV(c:Con)(l:List Con)(facts:Dec)(obs:List (Dec×IE×IE))(coh:Bool)(De Re Ce:IE):Bool:=
 ((sR c rfT coh De Re Ce).tree PR ⟨l,[]⟩ 300 aG no' 12 facts).all ((sR c rfT coh De Re Ce).leaf (qX (bdL c.bds) 12 obs)) (facts++(nr coh++c.pre))
def kE(i:Nat)(r:Int):IE:= .sel true (adE i) dW (.sel false (.rem (.wrap .i64 (.quo (.wrap .i64 (.fn 0 d16 (.quo (adE i) (.lit 256)) (.lit 0))) (.lit r))) (.lit 2)) (.lit 1) (.lit 1) (.lit 0)) (.lit 0)
def nOk(r:Int):Nat->Nat->IE
 |_,0=> .lit 1
 |i,n+1=>match n with
  |0=> .sel false (kE i r) (.lit 1) (.lit 1) (.lit 0)
  |n=> .sel false (kE i r) (.lit 1) (.sel false (nOk r (i+1) n) (.lit 1) (.lit 1) (.lit 0)) (.lit 0)
def rAt(r:Int):Nat->Nat->IE
 |_,0=> .lit 0
 |i,n+1=> .sel false (kE i r) (.lit 1) (rAt r (i+1) n) (adE i)
def rB(i:Nat):IE:= .wrap .u8 (.fn 0 d14 (adE i) (.lit 0))
def rW(n:Nat):IE:=match n with
 |1=>rB 0
 |_=> .add (.mul (.add (.mul (.add (.mul (rB 3) (.lit 256)) (rB 2)) (.lit 256)) (rB 1)) (.lit 256)) (rB 0)
def Np(v at':IE)(ok:IE):ab:= .agg [.int .u32 v,.int .u32 at',.bool (.eq ok (.lit 1))]
def okN(e:IE):IE:= .sel false e (.lit 1) (.lit 1) (.lit 0)
def mn(n:Nat):Con:=Jc 110 [uV .u32 1,.int .i64 (.lit n)] [bC 1] (Np (.sel false (eO 1 0 n) (.lit 1) (ldW n) (.lit 0)) (atE 1 0 n) (eO 1 0 n))
def obL(n:Nat):List (Dec×IE×IE):=[([],.sel false (eO 1 0 n) (.lit 1) (ldW n) (.lit 0),.sel false (nOk 1 0 n) (.lit 1) (rW n) (.lit 0)),([],atE 1 0 n,rAt 1 0 n),([],okN (eO 1 0 n),okN (nOk 1 0 n))]
theorem QR:(gV (mn 1) [] [] (obL 1) true d14 d16 d15&&(gV (mn 1) [] [] (obL 1) false d14 d16 d15&&(gV (mn 4) [] [] (obL 4) true d14 d16 d15&&gV (mn 4) [] [] (obL 4) false d14 d16 d15)))=true:=by kernel_rfl
def f22(r:Int):IE:= .fn 22 (.var 0) (.var 1) (.lit r)
def iX:Con:=Jc 120 [uV .u32 1] [bC 1] (Np (.sel false (f22 4) (.lit 1) cdE (.lit 0)) (.sel false (f22 4) (.lit 1) (.lit 0) (.var 1)) (f22 4))
def obF(coh:Bool):List (Dec×IE×IE):=[([],.sel false (f22 4) (.lit 1) cdE (.lit 0),.sel false (kE 0 4) (.lit 1) (.sel true (.var 1) dW (.wrap .u8 (.fn 0 (match coh with |true=>d14 |false=>d15) (.var 1) (.lit 0))) (.lit 0)) (.lit 0)),
 ([],.sel false (f22 4) (.lit 1) (.lit 0) (.var 1),.sel false (kE 0 4) (.lit 1) (.lit 0) (.var 1)),([],okN (f22 4),okN (.sel false (kE 0 4) (.lit 1) (.lit 1) (.lit 0)))]
theorem MX:(gV iX [] [] (obF true) true d14 d16 d15&&gV iX [] [] (obF false) false d14 d16 d15)=true:=by kernel_rfl
def gR(n:Nat):Con:=Jc 111 [uV .u32 1,.int .i64 (.lit n),uV .u32 2] [bC 1,bC 2] (Np (.lit 0) (atE 2 0 n) (eO 2 0 n)) (.sel false (eO 2 0 n) (.lit 1) (stW n) (.var 0))
def v2(i:Nat):IE:=match i with
 |0=> .var 2
 |i+1=> .quo (v2 i) (.lit 256)
def X8(n:Nat):IE:=match n with
 |1=> .fn 1 d14 (adE 0) (.wrap .u8 (v2 0))
 |_=> .fn 1 (.fn 1 (.fn 1 (.fn 1 d14 (adE 0) (.wrap .u8 (v2 0))) (adE 1) (.wrap .u8 (v2 1))) (adE 2) (.wrap .u8 (v2 2))) (adE 3) (v2 3)
def Mc(n:Nat):IE:= .sel false (nOk 2 0 n) (.lit 1) (X8 n) d14
def obS(n:Nat):List (Dec×IE×IE):=[([],atE 2 0 n,rAt 2 0 n),([],okN (eO 2 0 n),okN (nOk 2 0 n))]
theorem GM:(gV (gR 1) [] [] (obS 1) true (Mc 1) d16 d15&&gV (gR 1) [] [] (obS 1) false (Mc 1) d16 d15)=true:=by kernel_rfl
theorem IN:(gV (gR 4) [] [] (obS 4) true (Mc 4) d16 d15&&gV (gR 4) [] [] (obS 4) false (Mc 4) d16 d15)=true:=by kernel_rfl
end
end Go.Proofs.YtbhlmedfhilkbaaGreat

/- Part Ue1. No condition. -/
import Derived.Test.YtpdhneemedlgaaaGreatRows
import Derived.Test.YtpdhneemedlgaaaGreatSg
set_option linter.all false
namespace Go.Proofs.YtpdhneemedlgaaaGreat.te
open Go Go.Sx
set_option maxRecDepth 1000000
noncomputable section
noncomputable abbrev PR:Program:=Tryz.prog
theorem mixed:PR.follows .mixedOrders=true:=by kernel_rfl
def aG:FuncId->Nat->Bool:=fun _ _=>false
def no':FuncId->Bool:=fun _=>false
def box(v:ab)(t:Nat):ah:= .cells (T.nil.set 0 v) t false 1
def vo(coh:Bool)(N i:Nat):ah:=match coh with
 |true=> .cells (aF [.slice (some (i,0)) N N 0,.bool (.lit true)] 0 .nil) 134 false 2
 |false=> .cells (aF [.slice (some (i,0)) N N 0,.bool (.lit false)] 0 .nil) 136 false 26
def jn:ah:= .arr [.u8] (.lit 0) (.lit 256) false
def osP(coh:Bool)(N p:Nat):List ah:=[box (.ptr (some (2,0))) 97,box (.int .u32 (.lit (.ofNat (Nat.mul 256 p)))) 41,vo coh N 3,.cells (T.nil.set (Nat.mul 7 p) (.ptr (some (4,0)))) 142 false (Nat.mul 7 N),jn]
def cPo(coh:Bool)(N p:Nat):Con:={g:=482,args:=[.strS (.lit 0) (.lit 256),.func (.func 483) [] [.ptr (some (0,0)),.ptr (some (1,0))],.int .i64 (.lit 256),.int .i64 (.var 1)],os:=osP coh N p,bds:=[(1,0,256)],res:= .tuple [],os':=osP coh N p}
def rI(h:T ah)(b j:Nat):Option ab:=match h.get b with
 |some (.cells c _ _ _)=>c.get j
 |_=>none
def BM(b:Bool):Option ab->Bool
 |some (.bool (.lit c))=>Bool.rec (Bool.rec true false c) (Bool.rec false true c) b
 |_=>false
def AM(coh:Bool)(N p:Nat)(s:ASt):Bool:=
 match s.tm.get 1 with
 |some (.func _ _ [.ptr (some (m,0)),.ptr (some (b,0))])=>
  match rI s.hp b 0,rI s.hp m 0 with
  |some (.int _ (.lit (.ofNat n))),some (.ptr (some (k,0)))=>
   match rI s.hp k 0 with
   |some (.slice _ l _ _)=>Nat.beq n (Nat.mul 256 p)&&(Nat.beq l N&&BM coh (rI s.hp k 1))
   |_=>false
  |_,_=>false
 |_=>false
def lPo(coh:Bool)(N p:Nat):ba:={con:=cPo coh N p,key:=2,n:=17,sl:=[0,1,6,7],e:= .exit 0,sl':=[],pick:=AM coh N p}
def μP:IE:= .sub (.lit 256) (.var 1)
def tPo(coh:Bool)(N p:Nat):Out:=(lPo coh N p).tree PR ⟨[],[]⟩ 20 aG no' 14 [] μP
def xH(coh:Bool)(N p:Nat):Bool:=(tPo coh N p).all ((cPo coh N p).leaf (qP (bdL (cPo coh N p).bds) 10)) (cPo coh N p).pre&&(cPo coh N p).wf
theorem V9{G:Nat->Int->Int->Int->Int}{GH:Nat->bz}:Know.Ok PR G GH ⟨[],[]⟩:=⟨bO.nil,fun _ h=>by cases h⟩
theorem Db{ρ:Env}:Dec.holds ρ []:=fun p hp=>by cases hp
theorem Ys{coh:Bool}{N p:Nat}(h:xH coh N p=true){G:Nat->Int->Int->Int->Int}{GH:Nat->bz}:(lPo coh N p).con.wf=true/\(lPo coh N p).Ok PR G GH:=by
 obtain ⟨h1,h2⟩:=aa h;exact ⟨h2,ba.kj (c:=lPo coh N p) mixed V9 h2 rfl (fun _:Unit=>[]) 20 aG no' 14 10 μP fun ρ _ _ _=>⟨(),Db,h1⟩⟩
end
end Go.Proofs.YtpdhneemedlgaaaGreat.te
namespace Go.Proofs.YtpdhneemedlgaaaGreat.te
open Go Go.Sx
set_option maxRecDepth 1000000
noncomputable section
def dead(own:Bool):ah:= .arr [] (.lit 0) (.lit 0) own
def kq(N p:Nat)(l:List (Nat×Nat)):ah:= .cells (l.foldl (fun t x=>t.set (Nat.add (Nat.mul 7 p) x.1) (.ptr (some (x.2,0)))) T.nil) 142 false (Nat.mul 7 N)
def kcP(i:Nat):ah:= .cells (T.nil.set 0 (.ptr (some (i,0)))) 100 false 25
def kV(i:Nat):ab:= .iface 60 (.ptr (some (i,0)))
def qV(i:Nat):ab:= .iface 72 (.ptr (some (i,0)))
def lV(i:Nat):ab:= .iface 44 (.ptr (some (i,0)))
def iL(n:Nat):ab:= .int .i64 (.lit (.ofNat n))
structure Src where
 v:ab
 os:List ah
def Dj(N p:Nat):Src:=⟨kV 0,[kcP 1,vo true N 2,kq N p [(0,3)],jn]⟩
def zG(N p:Nat):Src:=⟨qV 0,[vo false N 1,kq N p [(0,2),(1,3)],jn,jn]⟩
def lvP(kind n:Nat)(host:ab)(img:Option Nat):ah:= .cells (match img with
 |none=>((T.nil.set 0 (iL kind)).set 1 (iL n)).set 2 host
 |some i=>(((T.nil.set 0 (iL kind)).set 1 (iL n)).set 2 host).set 36 (.slice (some (i,0)) (Nat.mul 256 n) (Nat.mul 256 n) 0)) 90 false 45
def yY(n N p:Nat):Src:=⟨lV 0,[lvP 1 n (qV 1) none,vo false N 2,kq N p [(0,3)],jn]⟩
def zE(n N p:Nat):Src:=⟨lV 0,[lvP 2 n (kV 1) (some 2),kcP 3,.arr [.u8] (.lit 0) (.lit (.ofNat (Nat.mul 256 n))) false,vo true N 4,kq N p [(0,5)],jn]⟩
def yO:ah:= .arr [.u8] (.lit 0) (.lit 256) true
def cCp(s:Src)(to:Nat->ab)(n p:Nat):Con:=
 let m:=s.os.length
 let cO:List ab:=[s.v,to m,.int .i64 (.lit 0),iL p,.int .u32 (.lit (.ofNat (Nat.mul 256 p))),.ptr (some (Nat.add m 1,0)),.ptr (some (Nat.add m 2,0)),iL n,iL p]
 {g:=22,args:=cO++[.int .i64 (.var 1)],os:=s.os++[dead false,yO,yO],bds:=[(1,0,256)],res:= .tuple cO,os':=s.os++[dead false,yO,yO]}
def E5(t:TypeId):Option ab->Bool
 |some (.iface t' _)=>Nat.beq t t'
 |_=>false
def isNat(n:Nat):Option ab->Bool
 |some (.int _ (.lit (.ofNat k)))=>Nat.beq n k
 |_=>false
def lCp(s:Src)(ft:TypeId)(to:Nat->ab)(n p:Nat):ba:={con:=cCp s to n p,key:=10,n:=91,sl:=[0,1,4,5,6,7,8,31,32,38],e:= .exit 2,sl':=[0,1,4,5,6,7,8,31,32],pick:=fun st=>E5 ft (st.tm.get 0)&&(isNat p (st.tm.get 5)&&isNat n (st.tm.get 31))}
def tCp(s:Src)(ft:TypeId)(to:Nat->ab)(n p:Nat):Out:=(lCp s ft to n p).tree PR ⟨[],[]⟩ 20 aG no' 14 [] μP
def su(s:Src)(ft:TypeId)(to:Nat->ab)(n p:Nat):Bool:=(tCp s ft to n p).all ((cCp s to n p).leaf (qP (bdL (cCp s to n p).bds) 10)) []&&(cCp s to n p).wf
theorem BU{s:Src}{ft:TypeId}{to:Nat->ab}{n p:Nat}(h:su s ft to n p=true){G:Nat->Int->Int->Int->Int}{GH:Nat->bz}:(lCp s ft to n p).con.wf=true/\(lCp s ft to n p).Ok PR G GH:=by
 obtain ⟨h1,h2⟩:=aa h;exact ⟨h2,ba.kj (c:=lCp s ft to n p) mixed V9 h2 rfl (fun _:Unit=>[]) 20 aG no' 14 10 μP fun ρ _ _ _=>⟨(),Db,h1⟩⟩
abbrev tyK:TypeId:=60
abbrev tyQ:TypeId:=72
abbrev tyL:TypeId:=44
def Et(n p:Nat):ba:=lCp (Dj n p) tyK lV n p
def E1(n p:Nat):ba:=lCp (zG n p) tyQ lV n p
def E3(N n p:Nat):ba:=lCp (zE n N p) tyL qV n p
def EI(N n p:Nat):ba:=lCp (yY n N p) tyL kV n p
end
end Go.Proofs.YtpdhneemedlgaaaGreat.te

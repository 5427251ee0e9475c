/- Part Tw2. No condition. -/
import Derived.Test.YtpdhneemedlgaaaGreatTw1
set_option linter.all false
namespace Go.Proofs.YtpdhneemedlgaaaGreat
open Go Go.Sx
set_option maxRecDepth 1000000
noncomputable section
abbrev tyK:TypeId:=60
abbrev tyQ:TypeId:=72
def plT(k:Nat):TypeId:=match k with
 |1=>tyK
 |_=>tyQ
def dI(a j:Nat):Nat:=match a,j % 2 with
 |1,0=>1
 |1,_=>2
 |_,0=>2
 |_,_=>1
def kdA(a j:Nat):IE:= .lit (.ofNat (dI a j))
def iL(n:Nat):ab:= .int .i64 (.lit (.ofNat n))
def plV(kd i:Nat):ab:= .iface (plT kd) (.ptr (some (i,0)))
def x7(h:Nat):Nat:=h
def sW(l:List (Nat×ab)):T ab:=l.foldl (fun t x=>t.set x.1 x.2) T.nil
def upto{α:Type}(n:Nat)(f:Nat->α):List α:=(List.range n).map f
def hoV(a h b p j:Nat):ab:=match Nat.blt (Nat.add j 1) h with
 |true=> .iface 44 (.ptr (some (Nat.add (Nat.add b j) 1,0)))
 |false=>plV (dI a h) p
def twN(a h:Nat):List ah:=
 .cells (sW [(0,.slice (some (1,0)) h (x7 h) 2),(1,plV (dI a h) (Nat.add h 2))]) 52 false 2::
 .cells (sW ((upto h fun j=>[(Nat.mul 2 j,ab.ptr (some (Nat.add 2 j,0))),(Nat.add (Nat.mul 2 j) 1,.int .i64 (.var (Nat.add 40 j)))]).flatten)) 57 false (Nat.mul 2 (x7 h))::
 ((upto h fun j=> .cells (sW [(0,iL (dI a j)),(2,hoV a h 2 (Nat.add h 2) j)]) 90 false 45)++[plD (dI a h)])
def cKi(a h:Nat):Con:=match h with
 |0=>te.fk (tw0 (plT a) a) 0 (kdA a) (.ofNat (dI a 0))
 |h=>te.fk (twN a h) h (kdA a) (.ofNat (dI a h))
def cMa(a h:Nat):Con:=match h with
 |0=>yk (tw0 (plT a) a) (plV a 1)
 |h=>yk (twN a h) (.iface 44 (.ptr (some (2,0))))
def JN:Con:={g:=5,args:=[],res:= .bool (.lit true)}
def KT(a:Nat):Know:=⟨[wm,xG,Bw 0,Bw 1,zN 0,zN 1,tM 0,tM 1]++(upto 5 (cMa a)++upto 5 (cKi a)),[]⟩
def pI(h:Nat):Nat:=match h with
 |0=>2
 |h=>Nat.add 3 h
def sz(h:Nat):IE:=match h with
 |0=> .var 1
 |_=> .var 7
def Ev(j:Nat):IE:=match j with
 |0=> .var 1
 |j=> .var (Nat.add 20 j)
def flV(h:Nat):ab:=match h with
 |0=> .slice none 0 0 0
 |h=> .slice (some (2,0)) h (x7 h) 2
def plO(kd i:Nat)(M:IE):List ah:=match kd with
 |1=>[.cells (aX (.ptr (some (Nat.add i 1,0))::st0) 0) 100 true 25,.ghost 0 [M] .nil]
 |_=>[.ghost 1 [M] (aX st0 2)]
def yz(h:Nat):List ah:=match h with
 |0=>[]
 |h=>[.cells (sW ((upto h fun j=>[(Nat.mul 2 j,ab.ptr (some (Nat.add 3 j,0))),(Nat.add (Nat.mul 2 j) 1,.int .i64 (.var (Nat.add 40 j)))]).flatten)) 57 true (Nat.mul 2 (x7 h))]
def tkO(a h:Nat):List ah:=
 .cells (sW [(0,flV h),(1,plV (dI a h) (pI h))]) 52 true 2::
 (yz h++((upto h fun j=> .cells (sW [(0,iL (dI a j)),(1,.int .i64 (Ev j)),(2,hoV a h 3 (pI h) j)]) 90 true 45)++plO (dI a h) (pI h) (hdE (.var 0) (sz h))))
def tkB(h:Nat):List (Nat×Int×Int):=[(1,1,4096),u8B 2,u8B 3,u8B 4,u8B 5,u8B 6]++((match h with
 |0=>[]
 |_=>[(7,1,4096)])++(upto 4 (fun j=>((Nat.add 20 j,0,4096):Nat×Int×Int))++upto 4 (fun j=>((Nat.add 40 j,0,4096):Nat×Int×Int))))
def cTk(a k h:Nat):Con:=
 let box:ah:= .cells (aX [uV .u8 2,uV .u8 3,uV .u8 4,uV .u8 5,uV .u8 6] 0) 22 false 5
 {g:=3,args:=[iL a,uV .i64 1,.ptr (some (0,0)),.bool (.lit true),.ptr (some (1,0)),.int .i64 (sz h),iL h,iL k],os:=box::tkO a h,bds:=tkB h,res:= .tuple [.bool (.lit true)],os':=box::(tkO a h).map fun _=>ld true}
def lTk(a k h:Nat):ba:={con:=cTk a k h,key:=11,n:=163,sl:=[0,1,5,7,8,10,11,12],e:= .exit 0,sl':=[7]}
def pY(k h i:Nat):Dec:=
 let v:IE:= .var (Nat.add 2 k)
 let t:BE:= .lt (.lit 4096) (.add (.add (sz h) (.lit 1)) (.sub v (.lit 2)))
 match i with
 |0=>[(.lt v (.lit 2),true)]
 |1=>[(.lt v (.lit 2),false),(t,true)]
 |_=>[(.lt v (.lit 2),false),(t,false)]
def nxH(h i:Nat):Nat:=match i with
 |2=>min (Nat.add h 1) 4
 |_=>h
def tTk(a k h i:Nat):Out:=(lTk a k h).ru (lTk a (Nat.add k 1) (nxH h i)) PR (KT a) 20 aG no' 14 (pY k h i)
def x9(a k h i:Nat):Bool:=(tTk a k h i).all ((cTk a k h).leaf (qP (bdL (cTk a k h).bds) 12)) (pY k h i++(cTk a k h).pre)
end
end Go.Proofs.YtpdhneemedlgaaaGreat

/- Part Br1. No condition. -/
import Derived.Test.YtbhlmedfhilkbaaGreatKr8
import Derived.Test.YtbhlmedfhilkbaaGreatBs7
set_option linter.all false
namespace Go.Proofs.YtbhlmedfhilkbaaGreat
open Go Go.Sx
set_option maxRecDepth 1000000
noncomputable section
def FB(coh:Bool):Fns:=match coh with
 |true=>⟨136,137,[0,90,3,2,24,28,25,40,41,26,42,43]⟩
 |false=>⟨138,139,[0,90,3,2,24,28,25,40,41,26,42,43]⟩
def FRc(coh:Bool):Fns:=match coh with
 |true=>FRK
 |false=>FR
def Df:List IntKind:= .i64:: .u32:: .u32::aW
def bL:IE:= .sub (.var 25) (.var 28)
def inS(j:Nat):ab:= .sliceS j (.var 28) bL 1 false
def im(j:Nat):ab:= .sliceA j (.var 41) 1
def gL:ah:= .arr [.u32] (.var 40) (.var 41) true
def uZ:ah:= .arr Df (.var 42) (.var 43) true
def Vw(coh:Bool)(j:Nat):ab:= .sliceS j (dg (FB coh) .u8 25) (dg (FB coh) .i8 26) 1 false
def J7(coh:Bool)(j:Nat):ab:= .sliceA j (dg (FB coh) .u32 27) 1
def JP(coh:Bool):ab:= .bool (.eq (kvE (FB coh) 28) (.lit 1))
def Le(coh:Bool):ah:= .arr [.u32] (kvE (FB coh) 32) (dg (FB coh) .u32 27) true
def VC(coh:Bool):ah:= .arr Df (kvE (FB coh) 33) (dg (FB coh) .u32 29) true
def T7(coh:Bool)(j:Nat):ab:= .sliceA j (dg (FB coh) .u32 29) 27
def μB:IE:= .sub (.sub (.mul (.var 3) (.lit 1002)) (.var 2)) (.var 26)
def zd:Int:=100000000
def brB:List (Nat×Int×Int):=[(3,-10000,10000),(2,0,1000),(28,0,8),(25,0,8),(41,0,zd),(43,0,zd),(26,0,1)]
def mJ:Dec:=[(.lt (.var 25) (.var 28),false),(.lt (.lit zd) (.add (.var 43) μB),false),(.lt (.lit zd) (.add (.var 41) μB),false)]
def JS(j:Nat):List ab:=[pm,.sliceA j (.var 43) 27,.int .i64 (.var 2),.int .i64 (.var 3)]
def ad2:Con:=
 {g:=24,args:=JS 4,os:=[kH (.iface qPT (.ptr (some (1,0)))) (inS 2) (im 3) dF,dZ 1 (.var 0),inN,gL,uZ],bds:=brB,pre:=mJ,
  res:= .tuple [pm,T7 false 6],os':=[kH (.iface qPT (.ptr (some (1,0)))) (Vw false 2) (J7 false 5) (JP false),.ghost 1 [kvE (FB false) 24] (aX (dgL (FB false) aW 0) 2),inN,ld,ld,Le false,VC false]}
def pY:ba:={con:=ad2,key:=7,n:=135,sl:=[0,5,6,7],e:= .exit 0,sl':=[0,5]}
def adf:Con:=
 {g:=24,args:=JS 5,os:=[kH (.iface kPT (.ptr (some (1,0)))) (inS 3) (im 4) dF,nH (b9 (.var 90)) 2,dZ 0 (.var 0),inN,gL,uZ],bds:=brB,pre:=mJ,
  res:= .tuple [pm,T7 true 7],os':=[kH (.iface kPT (.ptr (some (1,0)))) (Vw true 3) (J7 true 6) (JP true),nH (dgL (FB true) aW 0) 2,.ghost 0 [kvE (FB true) 24] .nil,inN,ld,ld,Le true,VC true]}
def qn:ba:={con:=adf,key:=7,n:=135,sl:=[0,5,6,7],e:= .exit 0,sl':=[0,5]}
def acm:Con:=
 {g:=16,args:=JS 5,os:=[fx [.ptr none,.ptr (some (1,0))] (inS 3) (im 4) dF,pj (b9 (.var 90)) 2,dZ 2 (.var 0),inN,gL,uZ],bds:=brB,pre:=mJ,
  res:= .tuple [pm,T7 false 7],os':=[fx [.ptr none,.ptr (some (1,0))] (Vw false 3) (J7 false 6) (JP false),pj (dgL (FB false) aW 0) 2,.ghost 2 [kvE (FB false) 24] .nil,inN,ld,ld,Le false,VC false]}
def jG:ba:={con:=acm,key:=5,n:=186,sl:=[0,5,7,6],e:= .exit 0,sl':=[0,5]}
def Z6:Con:=
 {g:=16,args:=JS 5,os:=[fx [.ptr (some (1,0)),.ptr none] (inS 3) (im 4) dF,nd (b9 (.var 90)) 2,dZ 2 (.var 0),inN,gL,uZ],bds:=brB,pre:=mJ,
  res:= .tuple [pm,T7 true 7],os':=[fx [.ptr (some (1,0)),.ptr none] (Vw true 3) (J7 true 6) (JP true),nd (dgL (FB true) aW 0) 2,.ghost 2 [kvE (FB true) 24] .nil,inN,ld,ld,Le true,VC true]}
def jM:ba:={con:=Z6,key:=5,n:=186,sl:=[0,5,7,6],e:= .exit 0,sl':=[0,5]}
def xO(coh:Bool):IE:= .fn (FRc coh).KR x0 (.lit 0) (.lit 0)
def dR(coh:Bool)(k:IntKind)(j:Nat):IE:=dX (FRc coh).KR x0 k j
def fS(coh:Bool):IE:=vX (FRc coh).KV x0 24
def tkE(coh:Bool):IE:=dR coh .u8 25
def tiE(coh:Bool):IE:=dR coh .u32 26
def fO(coh:Bool):IE:= .wrap .i64 (.sub (dR coh .i64 22) (pH (.var 90)))
def cy(coh:Bool):IE:= .wrap .i64 (.sub (.var 3) (fO coh))
def gM(coh:Bool):IE:= .wrap .i64 (.sub (cy coh) (.lit 1))
def gJ(coh:Bool)(n:Int):BE:= .eq (tiE coh) (.lit n)
def ja(coh:Bool)(n:Int):BE:= .eq (tkE coh) (.lit n)
def Mi(coh:Bool):BE:= .eq (dR coh .u32 18) (.lit 0)
def VM(coh:Bool)(n:Nat):Dec:=match n with
 |0=>[(ja coh 4,true),(gJ coh 0,true)]
 |1=>[(ja coh 4,true),(gJ coh 1,true)]
 |2=>[(ja coh 4,true),(gJ coh 2,true),(.lt (.var 28) (.var 25),true),(.eq bL (.lit 0),false),(.lt (.lit 0) bL,true)]
 |3=>[(ja coh 4,true),(gJ coh 3,true)]
 |4=>[(ja coh 4,true),(.lt (tiE coh) (.lit 4),false),(Mi coh,true)]
 |8=>[(ja coh 4,true),(.lt (tiE coh) (.lit 4),false),(Mi coh,false)]
 |7=>[(ja coh 4,false),(ja coh 2,false),(Mi coh,true)]
 |9=>[(ja coh 4,false),(ja coh 2,false),(Mi coh,false)]
 |5=>[(ja coh 4,true),(gJ coh 2,true),(.lt (.var 28) (.var 25),false),(.eq bL (.lit 0),true),(.lt (.lit 0) bL,false)]
 |_=>[(ja coh 4,false),(ja coh 2,true)]
def goB:BE:= .lt (.lit 0) (.var 3)
def stB:BE:= .eq (.var 26) (.lit 1)
def Ma(coh:Bool):BE:= .lt (cy coh) (.lit 1)
def Fu(coh:Bool):BE:= .eq (dR coh .i64 22) (pH (.var 90))
def R3:BE:= .eq (.var 2) (.lit 1000)
def kG:IE:= .sel false (.var 26) (.lit 1) (.lit 1) (.lit 0)
def nxt(l r s o e t:IE):Nat->IE:=fun i=>match i with
 |3=>l
 |2=>r
 |28=>s
 |41=>o
 |43=>e
 |26=>t
 |i=> .var i
def j7(l r s o e:IE)(t:IE:=kG):Dec:=(.lt l (.lit (-10000)),false)::(.lt (.lit 10000) l,false)::(.lt (μB.rep (nxt l r s o e t)) μB,true)::(.lt (μB.rep (nxt l r s o e t)) (.lit 0),false)::mJ.map fun p=>(p.1.rep (nxt l r s o e t),p.2)
def up(i:Nat):IE:= .add (.var i) (.lit 1)
def XJ(coh:Bool)(n:Nat)(same full:Bool):Dec:=match n with
 |1=>j7 (gM coh) (.lit 0) (.var 28) (up 41) (up 43)
 |2=>j7 (gM coh) (.lit 0) (up 28) (.var 41) (.var 43)
 |3=>j7 (gM coh) (.lit 0) (.var 28) (.var 41) (.var 43)
 |5=>j7 (gM coh) (.lit 0) (.var 28) (.var 41) (.var 43)
 |_=>more
where more:Dec:=match same,full with
 |true,true=>j7 (cy coh) (.lit 1000) (.var 28) (.var 41) (up 43) (.lit 1)
 |true,false=>(.lt (.lit 999) (.var 2),false)::(j7 (cy coh) (up 2) (.var 28) (.var 41) (up 43)++j7 (cy coh) (.var 2) (.var 28) (.var 41) (up 43) (.lit 1))
 |false,_=>j7 (cy coh) (.lit 1) (.var 28) (.var 41) (up 43)++j7 (cy coh) (.lit 0) (.var 28) (.var 41) (up 43) (.lit 1)
def yY(coh:Bool)(n:Nat)(same full:Bool):Dec:=VM coh n++((Fu coh,same)::(R3,full)::(Ma coh,false)::(stB,false)::(goB,true)::(.lt (.lit (zd-1)) (.var 41),false)::(.lt (.lit (zd-1)) (.var 43),false)::XJ coh n same full)
def AM(c:Con)(coh:Bool)(n:Nat):Con:={c with pre:=[(gJ coh (.ofNat n),true)],res:= .agg [.int .i64 (tkE coh),.int .u32 (.lit (.ofNat n))]}
def kBr(c:Con)(coh:Bool)(n:Nat):Know:=⟨[match n with |1=>AM c coh 1 |2=>AM c coh 2 |3=>AM c coh 3 |5=>AM c coh 2 |_=>c],[]⟩
def D3(j:Nat):IntKind:=match Nat.ble 22 j with |true=> .i64 |false=> .u32
def eR(coh:Bool)(j:Nat):IE:=dR coh (D3 j) j
def xz(coh:Bool)(e:Nat->IE)(j:Nat):IE:=match stN e coh j with
 | .int _ x=>x
 |_=> .lit 0
def nt(coh:Bool)(e:Nat->IE):IE:=ot ((List.range 24).map (xz coh e))
def abi(coh:Bool):Nat:=match coh with |true=>1 |false=>2
def ac9(coh:Bool):Int:=match coh with |true=>2 |false=>4
def zG(coh:Bool)(v:IE)(j:Nat):IE:=match Nat.beq j (abi coh) with
 |true=>v
 |false=>match j with
  |0=> .wrap .u32 (.add (eR coh 0) (.lit (ac9 coh)))
  |22=> .wrap .i64 (.add (eR coh 22) (.lit 1))
  |j=>eR coh j
def N5(coh:Bool)(j:Nat):IE:=match j with
 |0=>eR coh 18
 |19=>eR coh 0
 |20=>tkE coh
 |21=>tiE coh
 |23=> .sel false (tkE coh) (.lit 8) (.lit 0) (eR coh 23)
 |j=>eR coh j
def ZU(l:List IE):Nat->IE->IE:=List.rec (motive:=fun _=>Nat->IE->IE) (fun _ acc=>acc) (fun e _ ih j acc=>ih (j+1) (.fn 1 acc (match j with |0=> .mul (.var 43) (.lit 27) |j=> .add (.mul (.var 43) (.lit 27)) (.lit (.ofNat j))) e)) l
def nk(coh:Bool)(i v:IE):IE:=ZU (tkE coh::i::v::(List.range 24).map (eR coh)) 0 (.var 42)
def stay(i:Nat):IE:= .var i
def Pq(st:List IE)(M s l o stop n oc ec:IE):HT:= .done (st++[M,s,l,o,stop,n,.lit 0,.lit 0,oc,ec])
def JH:HT:=Pq (stE (.var 90)) (.var 0) (.var 28) bL (.var 41) kG (.var 43) (.var 40) (.var 42)
def zE(coh:Bool):List IE:=(List.range 24).map (eR coh)
def V6(coh:Bool):HT:=Pq (zE coh) (fS coh) (.var 28) bL (.var 41) kG (.var 43) (.var 40) (.var 42)
def Y7(coh:Bool):HT:=Pq (zE coh) (fS coh) (.var 28) bL (.var 41) (.lit 1) (up 43) (.var 40) (nk coh (tiE coh) (.lit 0))
def jU(coh:Bool):IE:= .sel false (dR coh .i64 22) (pH (.var 90)) (.var 2) (.lit 0)
def Gh(coh pr:Bool):HT:=match pr with
 |true=>Y7 coh
 |false=> .again [fS coh,xO coh,cy coh,jU coh,.var 24,.var 28,.var 25,.var 40,.var 41,.lit 1,nk coh (tiE coh) (.lit 0),up 43]
def zo(coh:Bool):IE:=eR coh (abi coh)
def dev(coh:Bool)(v s o oc n ec:IE):HT:= .again [fS coh,nt coh (zG coh v),gM coh,.lit 0,.var 24,s,.var 25,oc,o,.lit 0,ec,n]
def EI(coh:Bool):HT:= .again [fS coh,nt coh (N5 coh),cy coh,.add (jU coh) (.lit 1),.var 24,.var 28,.var 25,.var 40,.var 41,.lit 0,nk coh (tiE coh) (.lit 0),up 43]
def BA(coh pr:Bool):HT:= .split (.eq (tkE coh) (.lit 2)) (Gh coh pr) (.split (.eq (eR coh 18) (.lit 0)) (Gh coh pr) (.split (.eq (jU coh) (.lit 1000)) (Gh coh pr) (EI coh)))
def abn(coh pr:Bool):HT:= .split (gJ coh 0) (Gh coh pr)
 (.split (gJ coh 1) (dev coh (zo coh) (.var 28) (up 41) (.fn 1 (.var 40) (.var 41) (zo coh)) (up 43) (nk coh (.lit 1) (zo coh)))
 (.split (gJ coh 2) (.split (.lt (.var 28) (.var 25)) (dev coh (.wrap .u32 (.fn 0 (.var 24) (.var 28) (.lit 0))) (up 28) (.var 41) (.var 40) (.var 43) (.var 42)) (dev coh (.lit 0) (.var 28) (.var 41) (.var 40) (.var 43) (.var 42)))
 (.split (gJ coh 3) (dev coh (.wrap .u32 bL) (.var 28) (.var 41) (.var 40) (.var 43) (.var 42)) (BA coh pr))))
def fk(coh pr:Bool):HT:= .split goB (.split stB JH (.split (Ma coh) (V6 coh) (.split (.eq (tkE coh) (.lit 4)) (abn coh pr) (BA coh pr)))) JH
def pZ(l:ba)(c:Con)(coh pr:Bool)(n:Nat)(f:Dec):Bool:=(l.tree PR (kBr c coh n) 20 aG no' 12 f μB).all (l.con.gG (FB coh) (fk coh pr)) (f++l.con.pre)
def Hb(coh:Bool)(n:Nat):Dec:=match n with
 |0=>[(goB,false)]
 |1=>[(stB,true),(goB,true)]
 |_=>[(Ma coh,true),(stB,false),(goB,true)]
def brA(l:ba)(c:Con)(coh pr:Bool):Bool:=pZ l c coh pr 6 (Hb coh 0)&&(pZ l c coh pr 6 (Hb coh 1)&&(pZ l c coh pr 6 (Hb coh 2)&&((kBr c coh 1).cons.all Con.wf&&((kBr c coh 2).cons.all Con.wf&&((kBr c coh 3).cons.all Con.wf&&((kBr c coh 6).cons.all Con.wf&&l.con.wf))))))
def brN(l:ba)(c:Con)(coh pr:Bool)(n:Nat):Bool:=pZ l c coh pr n (yY coh n true true)&&(pZ l c coh pr n (yY coh n true false)&&(pZ l c coh pr n (yY coh n false true)&&pZ l c coh pr n (yY coh n false false)))
end
end Go.Proofs.YtbhlmedfhilkbaaGreat

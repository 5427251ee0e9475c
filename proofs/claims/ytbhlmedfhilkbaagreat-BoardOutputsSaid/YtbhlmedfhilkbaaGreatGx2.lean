/- All functions of the laws stay so where further ones are added. No condition. -/
import Derived.Test.YtbhlmedfhilkbaaGreatBr7
import Derived.Test.YtbhlmedfhilkbaaGreatBi3
set_option linter.unusedSimpArgs false
set_option linter.unusedVariables false
set_option linter.unusedSectionVars false
namespace Go.Proofs.YtbhlmedfhilkbaaGreat
open Go Go.Sx
set_option maxRecDepth 1000000
noncomputable section
attribute [local irreducible] kT pa BQ gP sM
theorem LawG.mono{G G':Nat->Int->Int->Int->Int}(h:LawG G)(he: ∀c,c<144->G' c=G c):LawG G':=by
 have m: ∀(F:Fns) (t:RT) (K:Nat),t.only (bR F.vars) K=true->KP<K->K<=144->F.KR<144->F.KV<144->F.Def G t->F.Def G' t:=fun F t K ho hk h1 h2 h3 hd=>Fns.Def.mono h.rH hd ho hk (fun c hc=>he c (by omega)) (he _ h2) (he _ h3)
 have b:cX G':=fun c hc x y z=>by rw [he c (by omega)]; exact h.made.base c hc x y z
 have p:gg G':=fun x y z=>by rw [he KP (by decide)]; exact h.rH x y z
 have d0:=m _ _ _ RH (by decide) (by decide) (by decide) (by decide) h.d
 have d1:=m _ _ _ Q1 (by decide) (by decide) (by decide) (by decide) h.f
 have d2:=m _ _ _ Tb (by decide) (by decide) (by decide) (by decide) h.s
 have d3:=m _ _ _ ON (by decide) (by decide) (by decide) (by decide) h.r
 have d4:=m _ _ _ Mj (by decide) (by decide) (by decide) (by decide) h.k
 have d5:=m _ _ _ Um (by decide) (by decide) (by decide) (by decide) h.ks
 have d6:=m _ _ _ o1 (by decide) (by decide) (by decide) (by decide) h.made.m2
 have d7:=m _ _ _ o2 (by decide) (by decide) (by decide) (by decide) h.made.e2
 have d8:=m _ _ _ o3 (by decide) (by decide) (by decide) (by decide) h.made.ck
 have d9:=m _ _ _ o4 (by decide) (by decide) (by decide) (by decide) h.made.m3
 have d10:=m _ _ _ o5 (by decide) (by decide) (by decide) (by decide) h.made.t3
 have d11:=m _ _ _ o6 (by decide) (by decide) (by decide) (by decide) h.made.e3
 have d12:=m _ _ _ o7 (by decide) (by decide) (by decide) (by decide) h.made.cq
 have d13:=m _ _ _ o8 (by decide) (by decide) (by decide) (by decide) h.made.eq
 have d14:=m _ _ _ o9 (by decide) (by decide) (by decide) (by decide) h.made.lk
 have d15:=m _ _ _ o10 (by decide) (by decide) (by decide) (by decide) h.made.lq
 have d16:=m _ _ _ TQ (by decide) (by decide) (by decide) (by decide) h.rk
 have d17:=m _ _ _ U8 (by decide) (by decide) (by decide) (by decide) h.bk
 have d18:=m _ _ _ Sv (by decide) (by decide) (by decide) (by decide) h.bq
 have d19:=m _ _ _ SK (by decide) (by decide) (by decide) (by decide) h.lk
 have d20:=m _ _ _ Up (by decide) (by decide) (by decide) (by decide) h.lq
 exact {made:={base:=b,m2:=d6,e2:=d7,ck:=d8,m3:=d9,t3:=d10,e3:=d11,cq:=d12,eq:=d13,lk:=d14,lq:=d15},rH:=p,d:=d0,f:=d1,s:=d2,r:=d3,k:=d4,ks:=d5,rk:=d16,bk:=d17,bq:=d18,lk:=d19,lq:=d20}
end
end Go.Proofs.YtbhlmedfhilkbaaGreat
namespace Go.Proofs.YtbhlmedfhilkbaaGreat
open Go Go.Sx
set_option maxRecDepth 1000000
noncomputable section
/-! 42 43 the events, 40 41 the outputs, 4 how many outputs are met, 2 which event is next: 1 where all fits -/
def FOut:Fns:=⟨144,145,[42,43,40,41,4,2]⟩
def evD(k:IntKind)(j:Nat):IE:= .wrap k (.fn 0 (.var 42) (match j with |0=> .mul (.var 2) (.lit 27) |j=> .add (.mul (.var 2) (.lit 27)) (.lit (.ofNat j))) (.lit 0))
def tk4:BE:= .eq (evD .i64 0) (.lit 4)
def ti1:BE:= .eq (evD .u32 1) (.lit 1)
def val0:BE:= .eq (evD .u32 2) (.lit 0)
def outB:BE:= .eq (.wrap .u32 (.fn 0 (.var 40) (.var 4) (.lit 0))) (evD .u32 2)
def inEv:BE:= .lt (.var 2) (.var 43)
def inOut:BE:= .lt (.var 4) (.var 41)
def endO:BE:= .eq (.var 4) (.var 41)
def nextS:List IE:=[.var 42,.var 43,.var 40,.var 41,.add (.var 4) (.lit 1),.add (.var 2) (.lit 1)]
def nextE:List IE:=[.var 42,.var 43,.var 40,.var 41,.var 4,.add (.var 2) (.lit 1)]
def sysO:HT:= .split inOut (.split outB (.again nextS) (.done [.lit 0])) (.done [.lit 0])
def elseO:HT:= .split val0 (.again nextE) (.done [.lit 0])
def outH:HT:= .split inEv (.split tk4 (.split ti1 sysO elseO) elseO) (.split endO (.done [.lit 1]) (.done [.lit 0]))
theorem out_only:outH.rt.only (bR FOut.vars) 144=true:=by kernel_rfl
def flagAt(l:List IE):BE:= .eq (.fn 145 (uS l) (.lit 0) (.lit 0)) (.lit 1)
def flag0:BE:=flagAt [.var 42,.var 43,.var 40,.var 41,.var 4,.var 2]
/-! the loop over the events -/
def ouB:List (Nat×Int×Int):=[(43,0,60000000),(41,0,60000000),(4,0,60000000),(2,0,60000000),(25,0,8)]
def allA:ah:= .arr [.u32] (.var 24) (.var 25) true
def brdE:ah:= .cells .nil 120 false 4
def cOuL:Con:={g:=4,args:=[.sliceA 0 (.var 43) 27,.sliceA 1 (.var 41) 1,.int .i64 (.var 4),.int .i64 (.var 2),.bool (.lit true),.ptr (some (2,0)),.sliceA 3 (.var 25) 1],os:=[uZ,gL,brdE,allA],bds:=ouB,pre:=[(.lt (.var 43) (.var 2),false),(.lt (.var 41) (.var 4),false),(flag0,true)],res:= .tuple [.sliceA 1 (.var 41) 1,.int .i64 (.var 41),.bool (.lit true),.ptr (some (2,0)),.sliceA 3 (.var 25) 1],os':=[uZ,gL,brdE,allA]}
def lOu:ba:={con:=cOuL,key:=11,n:=109,sl:=[11,12,13,14,7,8,10],e:= .exit 0,sl':=[12,13,7,8,10]}
def μOu:IE:= .sub (.var 43) (.var 2)
def facEv(n:Nat):Dec:=match n with
 |0=>[(inEv,false),(.eq (.var 41) (.var 4),true)]
 |1=>[(inEv,true),(tk4,true),(ti1,true),(inOut,true),(outB,true),(flagAt nextS,true),(.lt (.var 43) (.add (.var 2) (.lit 1)),false),(.lt (.var 41) (.add (.var 4) (.lit 1)),false)]
 |2=>[(inEv,true),(tk4,true),(ti1,false),(val0,true),(flagAt nextE,true),(.lt (.var 43) (.add (.var 2) (.lit 1)),false)]
 |_=>[(inEv,true),(tk4,false),(val0,true),(flagAt nextE,true),(.lt (.var 43) (.add (.var 2) (.lit 1)),false)]
def tOu(n:Nat):Out:=lOu.tree PR ⟨[],[]⟩ 40 aG no' 12 (facEv n) μOu
def ouOk(n:Nat):Bool:=(tOu n).all (cOuL.leaf (qP (bdL cOuL.bds) 12)) (facEv n++cOuL.pre)
theorem ou_run:(ouOk 0&&(ouOk 1&&(ouOk 2&&(ouOk 3&&cOuL.wf))))=true:=by kernel_rfl
/-! the loop over the inputs that are left -/
def cInL:Con:={g:=4,args:=[.sliceA 0 bL 1,.sliceA 1 (.var 25) 1,.int .i64 (.var 26),.bool (.lit true),.sliceA 2 (.var 41) 1,.int .i64 (.var 41)],os:=[HO,allA,gL],bds:=(41,0,60000000)::wdB,pre:=[inP,(.lt bL (.var 26),false)],res:= .tuple [.bool (.lit true),.sliceA 2 (.var 41) 1,.int .i64 (.var 41)],os':=[HO,allA,gL]}
def lIn:ba:={con:=cInL,key:=23,n:=109,sl:=[15,10,16,7,12,13],e:= .exit 2,sl':=[7,12,13]}
def atIn:IE:= .sub (.sub bL (.lit 1)) (.var 26)
def atAll:IE:= .sub (.sub (.var 25) (.lit 1)) (.var 26)
def facIn(b:Bool):Dec:=match b with
 |true=>[(.lt (.var 26) bL,true),(.lt atIn (.lit 0),false),(.lt atIn bL,true),(.lt atAll (.lit 0),false),(.lt atAll (.var 25),true),(.eq (.wrap .u32 (.fn 0 (.fn 2 (.var 24) (.var 28) bL) atIn (.lit 0))) (.wrap .u32 (.fn 0 (.var 24) atAll (.lit 0))),true),(.lt bL (.add (.var 26) (.lit 1)),false)]
 |false=>[(.lt (.var 26) bL,false)]
def tIn(b:Bool):Out:=lIn.tree PR ⟨[],[]⟩ 40 aG no' 12 (facIn b) (.sub bL (.var 26))
def inOk(b:Bool):Bool:=(tIn b).all (cInL.leaf (qP (bdL cInL.bds) 12)) (facIn b++cInL.pre)
theorem in_run:(inOk true&&(inOk false&&cInL.wf))=true:=by kernel_rfl
/-! the law -/
def w100:IE:= .lit 100
def nEvO(coh l:Bool):IE:= .rem (dLaw coh l w100 .u32 29) (.lit 1002001)
def oEvO(coh l:Bool):IE:= .rem (dLaw coh l w100 .u32 27) (.lit 1002001)
def flagL(coh l:Bool):BE:=flagAt [vLaw coh l w100 33,nEvO coh l,vLaw coh l w100 32,oEvO coh l,.lit 0,.lit 0]
def kOu(coh l:Bool):Know:=match coh with
 |true=>⟨[JN,mi true l,cBK,gu,dC],[lOu,lIn]⟩
 |false=>⟨[JN,mi false l,cBQ,gu,dC],[lOu,lIn]⟩
def rOut(coh l:Bool):Bool:=fq (XB 4 coh l [(flagL coh l,true)]) (kOu coh l) 100 12 12
end
end Go.Proofs.YtbhlmedfhilkbaaGreat
namespace Go.Proofs.YtbhlmedfhilkbaaGreat
open Go Go.Sx
set_option maxRecDepth 1000000
noncomputable section
theorem outs_run:([true,false].all fun coh=>[true,false].all fun l=>rOut coh l)=true:=by kernel_rfl
end
end Go.Proofs.YtbhlmedfhilkbaaGreat

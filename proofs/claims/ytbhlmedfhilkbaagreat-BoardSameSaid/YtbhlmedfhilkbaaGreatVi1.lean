/- A contract out of others of the same function, in other words. No condition. -/
import Derived.Test.YtbhlmedfhilkbaaGreatBd1
import Derived.Test.YtbhlmedfhilkbaaGreatBi3
set_option linter.unusedSimpArgs false
set_option linter.unusedVariables false
set_option linter.unusedSectionVars false
namespace Go.Proofs.YtbhlmedfhilkbaaGreat
open Go Go.Sx
set_option maxRecDepth 1000000
noncomputable section
/-- What the contracts l say of the function of c, at its pattern. -/
def viaT(c:Con)(l:List Con)(facts:Dec):Out:=
 match nV ((c.ctx PR).with (facts++c.pre)) l c.g c.args (aF c.os 0 .nil) c.os.length with
 |some (v,h,nx)=> .leaf .ret ⟨T.nil.set 0 v,h,nx⟩
 |none=> .bad (.num 998)
section
variable{G:Nat->Int->Int->Int->Int}
theorem via_goes{l:List Con}(hl:bO PR G gh l){c:Con}{facts:Dec}{ρ:Env}(h1:ρ.std G gh)(h2:ρ.ok (bdL c.bds))(h3:c.pre.holds ρ)(hf:facts.holds ρ){e:aM}{s:ASt}(hs:(viaT c l facts).pick ρ=some (e,s)): ∀B W,dA PR ρ B W c.g c.args (aF c.os 0 .nil) c.os.length s:=by
 intro B W
 unfold viaT at hs
 split at hs
 ·rename_i v h nx hc
  cases hs
  have hC:((c.ctx PR).with (facts++c.pre)).Ok PR ρ:=(xg mixed h2).with (bJ hf h3)
  obtain ⟨k1,k2⟩:=wg (B:=B) (W:=W) hC h1 hl _ _ _ _ _ _ _ hc
  refine ⟨k1,fun f w args' a b d=>(k2 f w args' a b d).mono fun e w' ⟨v',f',q1,q2,q3,q4,q5⟩=>⟨v',f',q1,q2,q3,q4,fun u hu=> ?_⟩⟩
  have hu:(T.nil.set 0 v).get 0=some u:=hu
  rcases T.aB hu with ⟨_,rfl⟩ | ⟨_,hu⟩
  ·exact q5
  ·rw [T.get_nil] at hu
   cases hu
 ·cases hs
/-- Where each end is as the contract says. -/
theorem via_ok{l:List Con}(hl:bO PR G gh l){c:Con}{facts:Dec}(hf: ∀ρ:Env,ρ.std G gh->ρ.ok (bdL c.bds)->c.pre.holds ρ->facts.holds ρ)(h:c.Leaves G gh (viaT c l facts)):c.Ok PR G gh:=by
 refine Con.Bn fun ρ h1 h2 h3=> ?_
 obtain ⟨e,s,at',q,p1,p2,p3⟩:=h ρ h1 h2 h3
 exact ⟨s,at',q,via_goes hl h1 h2 h3 (hf ρ h1 h2 h3) p1,p2,p3⟩
end
end
end Go.Proofs.YtbhlmedfhilkbaaGreat
namespace Go.Proofs.YtbhlmedfhilkbaaGreat
open Go Go.Sx
set_option maxRecDepth 1000000
noncomputable section
def cLaid1(coh l:Bool):Con:={g:=14,args:=[.int .i64 (.lit (match coh with |true=>1 |false=>2)),ph,.agg (xr [20,21,22,23]),.sliceS 1 (.lit 0) (PG l) 1 false],os:=[fu,inO],bds:=D8,pre:=is2 coh::many l::hd6 coh,res:= .ptr (some (2,0)),os':=match coh with
 |true=>[fu,inO,fx [.ptr (some (3,0)),.ptr none] (.sliceA 5 (PG l) 1) (.slice none 0 0 0) (.bool (.lit false)),nd (stL true) 4,.ghost 2 [mL true] .nil,inT l]
 |false=>[fu,inO,fx [.ptr none,.ptr (some (3,0))] (.sliceA 5 (PG l) 1) (.slice none 0 0 0) (.bool (.lit false)),pj (stL false) 4,.ghost 2 [mL false] .nil,inT l]}
def lL1(coh:Bool):List Con:=match coh with
 |true=>[gF]
 |false=>[gn]
def tL1(coh l:Bool):Out:=viaT (cLaid1 coh l) (lL1 coh) []
theorem l1_fit:([true,false].all fun coh=>[true,false].all fun l=>(tL1 coh l).all ((cLaid1 coh l).gG (FL1 coh) (hL coh)) (cLaid1 coh l).pre&&(cLaid1 coh l).wf)=true:=by kernel_rfl
def mod8E:IE:= .rem (.add (.rem (.var 20) (.lit 8)) (.lit 8)) (.lit 8)
def w30:IE:= .lit 30
def r9L(coh l:Bool):IE:= .rem (dLaw coh l w30 .u8 25) (.lit 9)
def sLaw(coh l:Bool):IE:=match l with
 |true=>r9L coh l
 |false=> .sel true (.var 27) (r9L coh l) (.var 27) (r9L coh l)
def inLaw(coh l:Bool):IE:= .sub (PG l) (sLaw coh l)
def facIn8(coh l:Bool):Dec:=[(mkLt (bdL D8) (PG l) (mkAdd (sLaw coh l) (inLaw coh l)),false),(mkLt (bdL D8) (inLaw coh l) (.lit 0),false),(mkLt (bdL D8) (sLaw coh l) (.lit 0),false),(mkLt (bdL D8) (.lit 8) (inLaw coh l),false)]
/-! words that are the same: slices.Equal and the reference's -/
def eqW(prog:Bool):Nat:=match prog with
 |true=>67
 |false=>68
def eqArg(prog:Bool)(a b n i:ab):List ab:=match prog with
 |true=>[a,b,n,i]
 |false=>[a,b,i]
def eqSl(prog:Bool):List Nat:=match prog with
 |true=>[0,1,12,13]
 |false=>[0,1,5]
def eqLoop(prog:Bool)(c:Con):ba:={con:=c,key:=5,n:=26,sl:=eqSl prog,e:= .exit 0,sl':=[]}
def eIn:ab:= .sliceS 0 (.var 28) bL 1 false
def eOut:ab:= .sliceA 0 (.var 41) 1
def eCut:ab:= .sliceA 1 bL 1
def iVar26:ab:= .int .i64 (.var 26)
def inPs:Dec:=[inP,(.lt bL (.var 26),false)]
def cE1L(prog:Bool):Con:={g:=eqW prog,args:=eqArg prog eIn eIn (.int .i64 bL) iVar26,os:=[inN],bds:=wdB,pre:=inPs,res:= .tuple [],os':=[inN]}
def cE2L(prog:Bool):Con:={g:=eqW prog,args:=eqArg prog eIn eCut (.int .i64 bL) iVar26,os:=[inN,HO],bds:=wdB,pre:=inPs,res:= .tuple [],os':=[inN,HO]}
def ouLB:List (Nat×Int×Int):=[(41,0,60000000),(26,0,60000000)]
def cE3L(prog:Bool):Con:={g:=eqW prog,args:=eqArg prog eOut eOut (.int .i64 (.var 41)) iVar26,os:=[gL],bds:=ouLB,pre:=[(.lt (.var 41) (.var 26),false)],res:= .tuple [],os':=[gL]}
def eqFac(b:Bool)(k:Nat):Dec:=match b with
 |false=>[(.lt (.var 26) (match k with |3=> .var 41 |_=>bL),false)]
 |true=>match k with
  |3=>[(.lt (.var 26) (.var 41),true)]
  |2=>[(.lt (.var 26) bL,true),(.lt (.add (.var 28) (.var 26)) (.var 25),true),(.eq (.wrap .u32 (.fn 0 (.var 24) (.add (.var 28) (.var 26)) (.lit 0))) (.wrap .u32 (.fn 0 (.fn 2 (.var 24) (.var 28) bL) (.var 26) (.lit 0))),true)]
  |_=>[(.lt (.var 26) bL,true),(.lt (.add (.var 28) (.var 26)) (.var 25),true)]
def cEL(prog:Bool)(k:Nat):Con:=match k with
 |1=>cE1L prog
 |2=>cE2L prog
 |_=>cE3L prog
def μE(k:Nat):IE:=match k with
 |3=> .sub (.var 41) (.var 26)
 |_=> .sub bL (.var 26)
def tEqW(prog:Bool)(k:Nat)(b:Bool):Out:=(eqLoop prog (cEL prog k)).tree PR ⟨[],[]⟩ 40 aG no' 12 (eqFac b k) (μE k)
def eqOk(prog:Bool)(k:Nat)(b:Bool):Bool:=(tEqW prog k b).all ((cEL prog k).leaf (qP (bdL (cEL prog k).bds) 12)) (eqFac b k++(cEL prog k).pre)
def cEq(prog:Bool)(k:Nat):Con:=match k with
 |1=>{g:=eqW prog,args:=[eIn,eIn],os:=[inN],bds:=inB,pre:=[inP],res:= .bool (.lit true),os':=[inN]}
 |2=>{g:=eqW prog,args:=[eIn,eCut],os:=[inN,HO],bds:=inB,pre:=[inP],res:= .bool (.lit true),os':=[inN,HO]}
 |_=>{g:=eqW prog,args:=[eOut,eOut],os:=[gL],bds:=[(41,0,60000000)],res:= .bool (.lit true),os':=[gL]}
def eqAll(prog:Bool)(k:Nat):Bool:=eqOk prog k true&&(eqOk prog k false&&((cEL prog k).wf&&(fq (cEq prog k) ⟨[],[eqLoop prog (cEL prog k)]⟩ 40 12 12&&(cEq prog k).wf)))
theorem eq_all:([true,false].all fun prog=>[1,2,3].all fun k=>eqAll prog k)=true:=by kernel_rfl
/-! events that are the same, or differ in the last one's R[3] -/
def eqV(prog:Bool):Nat:=match prog with
 |true=>70
 |false=>22
def evS(i:Nat):ab:= .sliceA i (.var 43) 27
def vPos(j:Nat):IE:=match j with
 |0=> .mul (.var 2) (.lit 27)
 |j=> .add (.mul (.var 2) (.lit 27)) (.lit (.ofNat j))
def lastP:IE:= .add (.mul (.sub (.var 43) (.lit 1)) (.lit 27)) (.lit 7)
def evC:IE:= .fn 1 (.var 42) lastP (.wrap .u32 (.add (.wrap .u32 (.fn 0 (.var 42) lastP (.lit 0))) (.lit 1)))
def evCO:ah:= .arr Df evC (.var 43) true
def evKd(j:Nat):IntKind:=match j with
 |0=> .i64
 |1=> .u32
 |2=> .u32
 |j=>D3 (j-3)
def evQ(j:Nat):BE:= .eq (.wrap (evKd j) (.fn 0 (.var 42) (vPos j) (.lit 0))) (.wrap (evKd j) (.fn 0 evC (vPos j) (.lit 0)))
def evLB:List (Nat×Int×Int):=[(43,0,60000000),(2,0,60000000)]
def cV1L:Con:={g:=eqV true,args:=[evS 0,evS 1,.int .i64 (.var 43),.int .i64 (.var 2)],os:=[uZ,uZ],bds:=evLB,pre:=[(.lt (.var 43) (.var 2),false)],res:= .tuple [],os':=[uZ,uZ]}
def lV1:ba:={con:=cV1L,key:=5,n:=26,sl:=[0,1,12,13],e:= .exit 0,sl':=[]}
def tV1:Out:=lV1.tree PR ⟨[],[]⟩ 40 aG no' 12 [] (.sub (.var 43) (.var 2))
def cV1:Con:={n9 with g:=eqV true}
theorem v1_run:(tV1.all (cV1L.leaf (qP (bdL cV1L.bds) 12)) cV1L.pre&&(cV1L.wf&&(fq cV1 ⟨[],[lV1]⟩ 40 12 12&&cV1.wf)))=true:=by kernel_rfl
def cV2L(prog:Bool):Con:={g:=eqV prog,args:=eqArg prog (evS 0) (evS 1) (.int .i64 (.var 43)) (.int .i64 (.var 2)),os:=[uZ,evCO],bds:=evLB,pre:=[(.lt (.var 2) (.var 43),true)],res:= .tuple [.bool (.lit false)],os':=[uZ,evCO]}
def lV2(prog:Bool):ba:={con:=cV2L prog,key:=5,n:=26,sl:=eqSl prog,e:= .ret,sl':=[4]}
def facV2(last:Bool):Dec:=(.lt (.add (.var 2) (.lit 1)) (.var 43),!last)::(List.range 27).map fun j=>(evQ j,!(last&&Nat.beq j 7))
def tV2(prog last:Bool):Out:=(lV2 prog).tree PR ⟨[],[]⟩ 40 aG no' 12 (facV2 last) (.sub (.var 43) (.var 2))
def cV2(prog:Bool):Con:={g:=eqV prog,args:=[evS 0,evS 1],os:=[uZ,evCO],bds:=[(43,0,60000000)],pre:=[(.lt (.lit 0) (.var 43),true)],res:= .bool (.lit false),os':=[uZ,evCO]}
def v2Ok(prog last:Bool):Bool:=(tV2 prog last).all ((cV2L prog).leaf (qP (bdL (cV2L prog).bds) 12)) (facV2 last++(cV2L prog).pre)
def v2All(prog:Bool):Bool:=v2Ok prog true&&(v2Ok prog false&&((cV2L prog).wf&&(fq (cV2 prog) ⟨[],[lV2 prog]⟩ 40 12 12&&(cV2 prog).wf)))
theorem v2_run:(v2All true&&v2All false)=true:=by kernel_rfl
/-! the law -/
def kSm(coh l:Bool):Know:=match coh with
 |true=>⟨[xG true,JN,cLaid1 true l,MM,wq,cEq true 1,cEq true 2,cEq true 3,cEq false 1,cEq false 2,cEq false 3,cV1,n9,cV2 true,cV2 false],[]⟩
 |false=>⟨[xG false,JN,cLaid1 false l,LF,xw,cEq true 1,cEq true 2,cEq true 3,cEq false 1,cEq false 2,cEq false 3,cV1,n9,cV2 true,cV2 false],[]⟩
def caseM(k:Nat):BE×Bool:=match k with
 |6=>(.lt mod8E (.lit 6),false)
 |k=>(.eq mod8E (.lit (.ofNat k)),true)
def rSam(coh l:Bool)(k:Nat):Bool:=fq (XB 3 coh l (caseM k::facIn8 coh l)) (kSm coh l) 100 12 12
end
end Go.Proofs.YtbhlmedfhilkbaaGreat

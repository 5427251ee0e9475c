/- A second run of a board that is laid: what the run at once leaves. No condition. -/
import Derived.Test.YtbhlmedfhilkbaaGreatBi3
import Derived.Test.YtbhlmedfhilkbaaGreatSp2
set_option linter.unusedSimpArgs false
set_option linter.unusedVariables false
set_option linter.unusedSectionVars false
namespace Go.Proofs.YtbhlmedfhilkbaaGreat
open Go Go.Sx
set_option maxRecDepth 1000000
noncomputable section
def xSQ(w:IE):IE:=uS [.var 0,.var 90,w,.lit 0,.var 24,.lit 0,.var 25,.lit 0,.lit 0,.lit 0,.lit 0,.lit 0]
def aey(coh:Bool)(w:IE)(k:IntKind)(j:Nat):IE:=dX (FB coh).KR (xSQ w) k j
def aeu(coh:Bool)(w:IE)(j:Nat):IE:=vX (FB coh).KV (xSQ w) j
def r9S(coh:Bool)(w:IE):IE:= .rem (aey coh w .u8 25) (.lit 9)
def afg(coh:Bool)(w:IE):IE:= .sel true (.var 25) (r9S coh w) (.var 25) (r9S coh w)
def aex(coh:Bool)(w:IE):IE:= .rem (aey coh w .u32 27) (.lit 1002001)
def aie(coh:Bool)(w:IE):IE:= .rem (aey coh w .u32 29) (.lit 1002001)
def afs(coh:Bool)(w:IE):IE:= .fn 1 (.fn 1 (aeu coh w 24) (.lit 3) (hE 3)) (.lit 7) (hE 7)
def ahq(coh:Bool)(w:IE):List ab:=dXL (FB coh).KR (xSQ w) aW 0
def ahp(coh:Bool)(w:IE)(j:Nat):ab:= .sliceS j (afg coh w) (.sub (.var 25) (afg coh w)) 1 false
def ah3(coh:Bool)(w:IE)(j:Nat):ab:= .sliceA j (aex coh w) 1
def tSp(coh:Bool)(w:IE):ab:= .bool (.eq (aeu coh w 28) (.lit 1))
def ah6(coh:Bool)(w:IE):ah:= .arr [.u32] (aeu coh w 32) (aex coh w) true
def w3:IE:= .var 3
def w34:IE:= .add (.var 3) (.var 4)
def x2S(coh:Bool):IE:=uS [afs coh w3,.fn (FB coh).KR (xSQ w3) (.lit 0) (.lit 0),.var 4,.lit 0,.var 24,afg coh w3,.var 25,aeu coh w3 32,aex coh w3,.sel false (.sel false (aeu coh w3 28) (.lit 1) (.lit 1) (.lit 0)) (.lit 1) (.lit 1) (.lit 0),.lit 0,.lit 0]
def e2S(coh:Bool):IE:=vX (FB coh).KV (x2S coh) 33
def n2S(coh:Bool):IE:= .rem (dX (FB coh).KR (x2S coh) .u32 29) (.lit 1002001)
def ai4(coh:Bool):ah:= .arr Df (e2S coh) (n2S coh) true
def spB:List (Nat×Int×Int):=[(3,0,100),(4,0,100),(25,0,8)]
def spP:Dec:=[(.lt (.var 0) (.lit 0),false),(.lt (.wrap .i64 (.fn 0 (.var 90) (.lit 22) (.lit 0))) (.lit 0),false),(.lt (.lit 100000000000) (.wrap .i64 (.fn 0 (.var 90) (.lit 22) (.lit 0))),false)]
def aia:List ab:=[pm,.int .i64 (.var 4)]
def ajh:Con:={g:=24,args:=aia,os:=[kH (.iface qPT (.ptr (some (1,0)))) (ahp false w3 2) (ah3 false w3 3) (tSp false w3),.ghost 1 [afs false w3] (aX (ahq false w3) 2),inN,ah6 false w3],bds:=spB,pre:=spP,res:= .sliceA 5 (n2S false) 27,os':=[kH (.iface qPT (.ptr (some (1,0)))) (ahp false w34 2) (ah3 false w34 4) (tSp false w34),.ghost 1 [afs false w34] (aX (ahq false w34) 2),inN,ld,ah6 false w34,ai4 false]}
def aje:Con:={g:=24,args:=aia,os:=[kH (.iface kPT (.ptr (some (1,0)))) (ahp true w3 3) (ah3 true w3 4) (tSp true w3),nH (ahq true w3) 2,.ghost 0 [afs true w3] .nil,inN,ah6 true w3],bds:=spB,pre:=spP,res:= .sliceA 6 (n2S true) 27,os':=[kH (.iface kPT (.ptr (some (1,0)))) (ahp true w34 3) (ah3 true w34 5) (tSp true w34),nH (ahq true w34) 2,.ghost 0 [afs true w34] .nil,inN,ld,ah6 true w34,ai4 true]}
def cSp(coh:Bool):Con:=match coh with
 |true=>aje
 |false=>ajh
def lSp(coh:Bool):List Con:=match coh with
 |true=>[cBK]
 |false=>[cBQ]
def d2S(coh:Bool)(k:IntKind)(j:Nat):IE:=dX (FB coh).KR (x2S coh) k j
def v2S(coh:Bool)(j:Nat):IE:=vX (FB coh).KV (x2S coh) j
def s2S(coh:Bool):IE:= .sel true (.var 25) (.rem (d2S coh .u8 25) (.lit 9)) (.var 25) (.rem (d2S coh .u8 25) (.lit 9))
def ail(coh:Bool):List (Dec×IE×IE):=([],aex coh w34,.add (aex coh w3) (.rem (.wrap .u32 (.sub (d2S coh .u32 27) (aex coh w3))) (.lit 1002001)))::([],.sel false (aeu coh w34 28) (.lit 1) (.lit 1) (.lit 0),.sel false (v2S coh 28) (.lit 1) (.lit 1) (.lit 0))::([],aeu coh w34 32,v2S coh 32)::([],aeu coh w34 24,v2S coh 24)::
 ([],afs coh w34,.fn 1 (.fn 1 (v2S coh 24) (.lit 3) (hE 3)) (.lit 7) (hE 7))::([],afg coh w34,s2S coh)::([],.sub (.var 25) (afg coh w34),.sub (.var 25) (s2S coh))::(List.range 24).map fun j=>([],aey coh w34 (D3 j) j,d2S coh (D3 j) j)
def aio(coh:Bool):Bool:=(ah4 (cSp coh) (lSp coh) []).all ((cSp coh).leaf (qX (bdL spB) 12 (ail coh))) ([]++(cSp coh).pre)&&(cSp coh).wf
theorem aiq:(aio true&&aio false)=true:=by kernel_rfl
end
end Go.Proofs.YtbhlmedfhilkbaaGreat
namespace Go.Proofs.YtbhlmedfhilkbaaGreat
open Go Go.Sx
set_option maxRecDepth 1000000
noncomputable section
def σ1S(w:IE):Nat->IE:=fun i=>match i with
 |0=> .var 0
 |90=> .var 90
 |3=>w
 |24=> .var 24
 |25=> .var 25
 |_=> .lit 0
theorem agu(coh:Bool)(w:IE)(ρ:Env):(FB coh).x.ev (ρ.rep (σ1S w))=(xSQ w).ev ρ:=by
 rw [<- IE.a9]
 cases coh<;>rfl
theorem aiu{ρ:Env}(h2:ρ.ok (bdL spB)){w:IE}(hw:0<=w.ev ρ/\w.ev ρ<=1000):Okb (ρ.rep (σ1S w))/\muN (ρ.rep (σ1S w))=w.ev ρ*1002:=by
 have hT:0<=ρ.i 25/\ρ.i 25<=8:=h2 25 _ _ rfl
 have em:muN (ρ.rep (σ1S w))=w.ev ρ*1002:=by
  show w.ev ρ*1002-0-0=_
  omega
 refine ⟨{
  l:=⟨show -10000<=w.ev ρ by omega,show w.ev ρ<=10000 by omega⟩
  r:=⟨show (0:Int)<=0 by omega,show (0:Int)<=1000 by omega⟩
  s:=⟨show (0:Int)<=0 by omega,show (0:Int)<=ρ.i 25 from hT.1⟩
  t:=hT.2
  o:=⟨show (0:Int)<=0 by omega,show (0:Int)<=100000000 by omega⟩
  n:=⟨show (0:Int)<=0 by omega,show (0:Int)<=100000000 by omega⟩
  z:=⟨show (0:Int)<=0 by omega,show (0:Int)<=1 by omega⟩
  pn:= ?_
  po:= ?_},em⟩
 ·rw [em]; show 0+_<=_; omega
 ·rw [em]; show 0+_<=_; omega
section
variable{G:Nat->Int->Int->Int->Int}
theorem aei{ρ:Env}(h1:ρ.std G gh)(coh:Bool)(X:IE)(k:IntKind)(j:Nat):(dX (FB coh).KR X k j).ev ρ=DX G (FB coh) (X.ev ρ) k j:=by
 show k.wrap (ag (fnI ρ (FB coh).KR (X.ev ρ) 0 0) _)=_
 rw [bY (by cases coh<;>decide),h1.1]
 rfl
theorem aew{ρ:Env}(h1:ρ.std G gh)(coh:Bool)(X:IE)(j:Nat):(vX (FB coh).KV X j).ev ρ=G (FB coh).KV (X.ev ρ) 0 (j:Nat):=by
 show fnI ρ (FB coh).KV (X.ev ρ) 0 _=_
 rw [bY (by cases coh<;>decide),h1.1]
 rfl
theorem aid{t:Int}(h:t=0\/t=1):aA false t 1 1 0=t:=by
 unfold aA
 simp only [Bool.false_eq_true,if_false]
 split<;>omega
variable(hG:RunG G)
include hG
theorem agx{ρ:Env}(h1:ρ.std G gh)(h2:ρ.ok (bdL spB))(h3:spP.holds ρ)(coh:Bool): ∃a k:Nat,
 DX G (FB coh) ((xSQ w3).ev ρ) .u32 29=(a:Int)/\a<=100200/\DX G (FB coh) ((x2S coh).ev ρ) .u32 29=(k:Int)/\k<=200400/\DX G (FB coh) ((xSQ w34).ev ρ) .u32 29=((a+k:Nat):Int)/\
 agh a k (G (FB coh).KV ((xSQ w34).ev ρ) 0 33) (G (FB coh).KV ((x2S coh).ev ρ) 0 33)/\ahg a (G (FB coh).KV ((xSQ w34).ev ρ) 0 33) (G (FB coh).KV ((xSQ w3).ev ρ) 0 33)/\
 aeg (G (FB coh).KR ((xSQ w34).ev ρ) 0 0) (G (FB coh).KR ((x2S coh).ev ρ) 0 0)/\(∀ j∈[24,28,32],G (FB coh).KV ((xSQ w34).ev ρ) 0 ((j:Nat):Int)=G (FB coh).KV ((x2S coh).ev ρ) 0 ((j:Nat):Int))/\
 DX G (FB coh) ((xSQ w34).ev ρ) .u8 25=DX G (FB coh) ((x2S coh).ev ρ) .u8 25/\DX G (FB coh) ((xSQ w34).ev ρ) .u32 27=DX G (FB coh) ((x2S coh).ev ρ) .u32 27/\
 0<=DX G (FB coh) ((xSQ w3).ev ρ) .u32 27/\DX G (FB coh) ((xSQ w3).ev ρ) .u32 27<=DX G (FB coh) ((x2S coh).ev ρ) .u32 27/\DX G (FB coh) ((x2S coh).ev ρ) .u32 27<=1000000:=by
 have b3:0<=ρ.i 3/\ρ.i 3<=100:=h2 3 _ _ rfl
 have b4:0<=ρ.i 4/\ρ.i 4<=100:=h2 4 _ _ rfl
 have b25:0<=ρ.i 25/\ρ.i 25<=8:=h2 25 _ _ rfl
 have p0: ¬ρ.i 0<0:=of_decide_eq_false (h3 (.lt (.var 0) (.lit 0),false) (by simp [spP]))
 have p1: ¬fN (ρ.i 90)<0:=of_decide_eq_false (h3 (.lt (.wrap .i64 (.fn 0 (.var 90) (.lit 22) (.lit 0))) (.lit 0),false) (by simp [spP]))
 have p2: ¬(100000000000:Int)<fN (ρ.i 90):=of_decide_eq_false (h3 (.lt (.lit 100000000000) (.wrap .i64 (.fn 0 (.var 90) (.lit 22) (.lit 0))),false) (by simp [spP]))
 have h1a:(ρ.rep (σ1S w3)).std G gh:=h1
 have h1f:(ρ.rep (σ1S w34)).std G gh:=h1
 obtain ⟨ok1,mu1⟩:=aiu h2 (w:=w3) ⟨b3.1,show ρ.i 3<=1000 by omega⟩
 obtain ⟨okF,muF⟩:=aiu h2 (w:=w34) ⟨show 0<=ρ.i 3+ρ.i 4 by omega,show ρ.i 3+ρ.i 4<=1000 by omega⟩
 have mu1:muN (ρ.rep (σ1S w3))=ρ.i 3*1002:=mu1
 have muF:muN (ρ.rep (σ1S w34))=(ρ.i 3+ρ.i 4)*1002:=muF
 have inv1:=N7 hG coh _ h1a ok1
 have invF:=N7 hG coh _ h1f okF
 rw [agu] at inv1 invF
 obtain ⟨s0,s1,_,o0,o1,n0,n1,z,hd⟩:=inv1
 obtain ⟨_,_,_,_,oFQ,_,nFQ,_,_⟩:=invF
 rw [mu1] at o1 n1
 rw [muF] at oFQ nFQ
 have s0:0<=DX G (FB coh) ((xSQ w3).ev ρ) .u8 25:=s0
 have s1:DX G (FB coh) ((xSQ w3).ev ρ) .u8 25<=ρ.i 25:=s1
 have o0:0<=DX G (FB coh) ((xSQ w3).ev ρ) .u32 27:=o0
 have o1:DX G (FB coh) ((xSQ w3).ev ρ) .u32 27<=0+max 0 (ρ.i 3*1002):=o1
 have n0:0<=DX G (FB coh) ((xSQ w3).ev ρ) .u32 29:=n0
 have n1:DX G (FB coh) ((xSQ w3).ev ρ) .u32 29<=0+max 0 (ρ.i 3*1002):=n1
 have oFQ:DX G (FB coh) ((xSQ w34).ev ρ) .u32 27<=0+max 0 ((ρ.i 3+ρ.i 4)*1002):=oFQ
 have nFQ:DX G (FB coh) ((xSQ w34).ev ρ) .u32 29<=0+max 0 ((ρ.i 3+ρ.i 4)*1002):=nFQ
 obtain ⟨a,ha⟩:=Int.eq_ofNat_of_zero_le n0
 have hd0:=hd (ag (ρ.i 0) (3:Nat)) (ag (ρ.i 0) (7:Nat)) ⟨show 0<=ρ.i 0 by omega,rfl,rfl⟩
 -- the run at once is the first run, then the rest
 have sp:=agf hG coh _ h1a ok1 (ρ.i 4) b4.1 (okF.congr fun v hv=>by
  simp only [List.mem_cons,List.not_mem_nil,or_false] at hv
  rcases hv with rfl |rfl |rfl |rfl |rfl |rfl |rfl<;>rfl) rfl b3.1 (fun _=>rfl) (show 0<=fN (ρ.i 90) by omega) (show fN (ρ.i 90)+ρ.i 3+ρ.i 4<=800000000000 by omega)
 have h1b:((ρ.rep (σ1S w3)).rep (σ3c (ρ.i 4))).std G gh:=h1
 have eFQ:(FB coh).x.ev ((ρ.rep (σ1S w3)).rep (σ3c (ρ.i 4)))=(xSQ w34).ev ρ:=by
  rw [<- agu coh w34 ρ]
  exact afa hG h1b h1f coh fun v hv=>by
   simp only [List.mem_cons,List.not_mem_nil,or_false] at hv
   rcases hv with rfl |rfl |rfl |rfl |rfl |rfl |rfl |rfl |rfl |rfl |rfl |rfl<;>rfl
 rw [eFQ] at sp
 obtain ⟨q0,q90,q28,q40,q41,q26,q42,q43⟩:=af0 (ρ:=ρ.rep (σ1S w3)) h1a coh (ρ.i 4)
 rw [agu] at q0 q90 q28 q40 q41 q26 q42 q43
 have h1c:((ρ.rep (σ1S w3)).rep (σ2c coh (ρ.i 4))).std G gh:=h1
 have i3:((ρ.rep (σ1S w3)).rep (σ2c coh (ρ.i 4))).i 3=ρ.i 4:=rfl
 have i2:((ρ.rep (σ1S w3)).rep (σ2c coh (ρ.i 4))).i 2=0:=rfl
 have i25:((ρ.rep (σ1S w3)).rep (σ2c coh (ρ.i 4))).i 25=ρ.i 25:=rfl
 have z':0<=((ρ.rep (σ1S w3)).rep (σ2c coh (ρ.i 4))).i 26/\((ρ.rep (σ1S w3)).rep (σ2c coh (ρ.i 4))).i 26<=1:=by rw [q26]; omega
 have mu2:muN ((ρ.rep (σ1S w3)).rep (σ2c coh (ρ.i 4)))=ρ.i 4*1002-((ρ.rep (σ1S w3)).rep (σ2c coh (ρ.i 4))).i 26:=by
  unfold muN
  rw [i3,i2]
  omega
 have ok2:Okb ((ρ.rep (σ1S w3)).rep (σ2c coh (ρ.i 4))):=by
  refine ⟨by rw [i3]; omega,by rw [i2]; omega,by rw [q28,i25]; omega,by rw [i25]; omega,by rw [q41]; omega,by rw [q43]; omega,z',by rw [q43,mu2]; omega,by rw [q41,mu2]; omega⟩
 have sh:=agj hG coh _ h1c ok2 a 0 0 (by rw [q43,ha]; rfl) (fun q hq=>absurd hq (by omega))
 rw [q42] at sh
 -- the second run's arguments
 have eMQ:(afs coh w3).ev ρ=G (FB coh).KV ((xSQ w3).ev ρ) 0 24:=by
  have ev:(aeu coh w3 24).ev ρ=G (FB coh).KV ((xSQ w3).ev ρ) 0 24:=aew h1 coh (xSQ w3) 24
  show aD (aD ((aeu coh w3 24).ev ρ) (3:Nat) (ag (ρ.i 0) (3:Nat))) (7:Nat) (ag (ρ.i 0) (7:Nat))=_
  rw [ev,<-hd0.n,iq hd0.pos,<-hd0.c,iq hd0.pos]
 have eR:(IE.fn (FB coh).KR (xSQ w3) (.lit 0) (.lit 0)).ev ρ=G (FB coh).KR ((xSQ w3).ev ρ) 0 0:=by
  show fnI ρ (FB coh).KR ((xSQ w3).ev ρ) 0 0=_
  rw [bY (by cases coh<;>decide),h1.1]
 have e9:(r9S coh w3).ev ρ=DX G (FB coh) ((xSQ w3).ev ρ) .u8 25:=by
  have e:(r9S coh w3).ev ρ=((aey coh w3 .u8 25).ev ρ).tmod 9:=rfl
  have ed:(aey coh w3 .u8 25).ev ρ=DX G (FB coh) ((xSQ w3).ev ρ) .u8 25:=aei h1 coh (xSQ w3) .u8 25
  rw [e,ed]
  exact pV s0 (by omega)
 have eS:(afg coh w3).ev ρ=DX G (FB coh) ((xSQ w3).ev ρ) .u8 25:=by
  show aA true (ρ.i 25) ((r9S coh w3).ev ρ) (ρ.i 25) ((r9S coh w3).ev ρ)=_
  rw [e9]
  unfold aA
  simp only [if_true]
  split<;>omega
 have eOQ:(aex coh w3).ev ρ=DX G (FB coh) ((xSQ w3).ev ρ) .u32 27:=by
  have e:(aex coh w3).ev ρ=((aey coh w3 .u32 27).ev ρ).tmod 1002001:=rfl
  have ed:(aey coh w3 .u32 27).ev ρ=DX G (FB coh) ((xSQ w3).ev ρ) .u32 27:=aei h1 coh (xSQ w3) .u32 27
  rw [e,ed]
  exact pV o0 (by omega)
 have eVQ: ∀j:Nat,(aeu coh w3 j).ev ρ=G (FB coh).KV ((xSQ w3).ev ρ) 0 (j:Nat):=fun j=>aew h1 coh (xSQ w3) j
 have eT:(IE.sel false (.sel false (aeu coh w3 28) (.lit 1) (.lit 1) (.lit 0)) (.lit 1) (.lit 1) (.lit 0)).ev ρ=G (FB coh).KV ((xSQ w3).ev ρ) 0 28:=by
  show aA false (aA false ((aeu coh w3 28).ev ρ) 1 1 0) 1 1 0=_
  rw [eVQ 28]
  have z:G (FB coh).KV ((xSQ w3).ev ρ) 0 (28:Nat)=0\/G (FB coh).KV ((xSQ w3).ev ρ) 0 (28:Nat)=1:=z
  rw [aid z,aid z]
  rfl
 have hP:gg ρ.g:=by rw [h1.1]; exact hG.rH
 have h1e:(((ρ.rep (σ1S w3)).rep (σ2c coh (ρ.i 4))).rep (σev 0 (0:Nat))).std G gh:=h1
 have pkx: ∀l:List IE,(uS l).ev ρ=mI (l.map (·.ev ρ)):=fun l=>by
  induction l with
  |nil=>rfl
  |cons e l ih=>
   show fnI ρ KP (e.ev ρ) ((uS l).ev ρ) 0=_
   rw [ih,bY (by decide),hP]
   rfl
 have e2:(FB coh).x.ev (((ρ.rep (σ1S w3)).rep (σ2c coh (ρ.i 4))).rep (σev 0 (0:Nat)))=(x2S coh).ev ρ:=by
  unfold x2S
  rw [aip hG h1e,pkx]
  simp only [List.map_cons,List.map_nil]
  rw [eMQ,eR,eS,eOQ,eT,eVQ 32]
  show mI [((ρ.rep (σ1S w3)).rep (σ2c coh (ρ.i 4))).i 0,((ρ.rep (σ1S w3)).rep (σ2c coh (ρ.i 4))).i 90,ρ.i 4,0,ρ.i 24,((ρ.rep (σ1S w3)).rep (σ2c coh (ρ.i 4))).i 28,ρ.i 25,((ρ.rep (σ1S w3)).rep (σ2c coh (ρ.i 4))).i 40,((ρ.rep (σ1S w3)).rep (σ2c coh (ρ.i 4))).i 41,((ρ.rep (σ1S w3)).rep (σ2c coh (ρ.i 4))).i 26,0,0]=_
  rw [q0,q90,q28,q40,q41,q26]
  rfl
 rw [e2] at sh
 obtain ⟨t1,t2,t3,t4,t5,t6,⟨k,t7,t8,t9⟩,t10⟩:=sh
 have oX:((ρ.rep (σ1S w3)).rep (σ2c coh (ρ.i 4))).i 41<=DX G (FB coh) ((FB coh).x.ev ((ρ.rep (σ1S w3)).rep (σ2c coh (ρ.i 4)))) .u32 27:=(N7 hG coh _ h1c ok2).o0
 rw [q41,t6] at oX
 refine ⟨a,k,ha,by omega,t7,?_,?_,?_,?_,?_,?_,?_,?_,o0,oX,?_⟩
 ·rw [iM sp,t8] at nFQ
  omega
 ·rw [iM sp]; exact t8
 ·rw [Ff sp]; exact t9
 ·rw [Ff sp]; exact t10
 ·rw [sp.1]; exact t1
 ·intro j hj
  rw [Ff sp]
  simp only [List.mem_cons,List.not_mem_nil,or_false] at hj
  rcases hj with rfl |rfl |rfl
  ·exact t2
  ·exact t3
  ·exact t4
 ·rw [iM sp]; exact t5
 ·rw [iM sp]; exact t6
 ·rw [iM sp,t6] at oFQ
  omega
theorem ahs{ρ:Env}(h1:ρ.std G gh)(h2:ρ.ok (bdL spB))(h3:spP.holds ρ)(coh:Bool):fC ρ (ail coh):=by
 obtain ⟨a,k,_,_,_,_,_,_,_,st,kv3,ds,do',o0,o1,o2⟩:=agx hG h1 h2 h3 coh
 have eOQ:(aex coh w3).ev ρ=DX G (FB coh) ((xSQ w3).ev ρ) .u32 27:=by
  have e:(aex coh w3).ev ρ=((aey coh w3 .u32 27).ev ρ).tmod 1002001:=rfl
  have ed:(aey coh w3 .u32 27).ev ρ=DX G (FB coh) ((xSQ w3).ev ρ) .u32 27:=aei h1 coh (xSQ w3) .u32 27
  rw [e,ed]
  exact pV o0 (by omega)
 have v: ∀j∈[24,28,32],(aeu coh w34 j).ev ρ=(v2S coh j).ev ρ:=fun j hj=>by
  have e1:(aeu coh w34 j).ev ρ=G (FB coh).KV ((xSQ w34).ev ρ) 0 (j:Nat):=aew h1 coh (xSQ w34) j
  have e2:(v2S coh j).ev ρ=G (FB coh).KV ((x2S coh).ev ρ) 0 (j:Nat):=aew h1 coh (x2S coh) j
  rw [e1,e2]
  exact kv3 j hj
 have d25:(aey coh w34 .u8 25).ev ρ=(d2S coh .u8 25).ev ρ:=(aei h1 coh (xSQ w34) .u8 25).trans (ds.trans (aei h1 coh (x2S coh) .u8 25).symm)
 have e27:(d2S coh .u32 27).ev ρ=DX G (FB coh) ((x2S coh).ev ρ) .u32 27:=aei h1 coh (x2S coh) .u32 27
 have d27:(aey coh w34 .u32 27).ev ρ=(d2S coh .u32 27).ev ρ:=(aei h1 coh (xSQ w34) .u32 27).trans (do'.trans e27.symm)
 have s2:(afg coh w34).ev ρ=(s2S coh).ev ρ:=by
  show aA true (ρ.i 25) (((aey coh w34 .u8 25).ev ρ).tmod 9) (ρ.i 25) (((aey coh w34 .u8 25).ev ρ).tmod 9)=aA true (ρ.i 25) (((d2S coh .u8 25).ev ρ).tmod 9) (ρ.i 25) (((d2S coh .u8 25).ev ρ).tmod 9)
  rw [d25]
 intro o ho _
 simp only [ail,List.mem_cons] at ho
 rcases ho with rfl |rfl |rfl |rfl |rfl |rfl |rfl |ho
 ·show ((aey coh w34 .u32 27).ev ρ).tmod 1002001=(aex coh w3).ev ρ+(IntKind.u32.wrap ((d2S coh .u32 27).ev ρ-(aex coh w3).ev ρ)).tmod 1002001
  rw [d27,e27,eOQ,bI .u32 _ (show (0:Int)<=_ by omega) (show _<=(4294967295:Int) by omega),pV (by omega) (by omega),pV (by omega) (by omega)]
  omega
 ·show aA false ((aeu coh w34 28).ev ρ) 1 1 0=aA false ((v2S coh 28).ev ρ) 1 1 0
  rw [v 28 (by simp)]
 ·exact v 32 (by simp)
 ·exact v 24 (by simp)
 ·show aD (aD ((aeu coh w34 24).ev ρ) _ _) _ _=aD (aD ((v2S coh 24).ev ρ) _ _) _ _
  rw [v 24 (by simp)]
 ·exact s2
 ·show ρ.i 25-(afg coh w34).ev ρ=ρ.i 25-(s2S coh).ev ρ
  rw [s2]
 ·obtain ⟨j,hj,rfl⟩:=List.mem_map.1 ho
  have hj:=List.mem_range.1 hj
  show (aey coh w34 (D3 j) j).ev ρ=(d2S coh (D3 j) j).ev ρ
  have e1:(aey coh w34 (D3 j) j).ev ρ=DX G (FB coh) ((xSQ w34).ev ρ) (D3 j) j:=aei h1 coh (xSQ w34) (D3 j) j
  have e2:(d2S coh (D3 j) j).ev ρ=DX G (FB coh) ((x2S coh).ev ρ) (D3 j) j:=aei h1 coh (x2S coh) (D3 j) j
  rw [e1,e2]
  exact st.dig hj
omit hG in
theorem aiw(coh:Bool):aio coh=true:=by
 have h:=aa aiq
 cases coh
 ·exact h.2
 ·exact h.1
theorem ag4(coh:Bool):(cSp coh).wf=true/\(cSp coh).Ok PR G gh:=by
 obtain ⟨h,w⟩:=aa (aiw coh)
 have hc:bO PR G gh (lSp coh):=by
  cases coh
  ·exact bO.cons (W5 hG).1 (W5 hG).2 bO.nil
  ·exact bO.cons (XH hG).1 (XH hG).2 bO.nil
 have hb:(cSp coh).bds=spB:=by cases coh<;>rfl
 have hp:(cSp coh).pre=spP:=by cases coh<;>rfl
 refine ⟨w,air hc (facts:=[]) (fun _ _ _ _=>aw) (Con.vG (c:=cSp coh) [] (fun _ _ _ _=>aw) _ (fun ρ h1 h2 h3 dec a b hd hab=> ?_) h)⟩
 have h2':ρ.ok (bdL spB):=by rw [<- hb]; exact h2
 exact uv h2' hd (ahs hG h1 h2' (by rw [<- hp]; exact h3) coh) hab
end
end
end Go.Proofs.YtbhlmedfhilkbaaGreat

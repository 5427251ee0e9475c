/- Part Br7. No condition. -/
import Derived.Test.YtbhlmedfhilkbaaGreatBrS
import Derived.Test.YtbhlmedfhilkbaaGreatFt1
set_option linter.all false
namespace Go.Proofs.YtbhlmedfhilkbaaGreat
open Go Go.Sx
set_option maxRecDepth 1000000
noncomputable section
def σ0:Nat->IE:=fun i=>match i with
 |2=> .lit 0
 |42=> .lit 0
 |43=> .lit 0
 |26=>kG
 |i=> .var i
theorem X6(coh:Bool)(ρ:Env):(FB coh).x.ev (ρ.rep σ0)=xB.ev ρ:=by
 rw [<- IE.a9];cases coh<;>rfl
theorem RG{ρ:Env}(h:0<=ρ.i 26/\ρ.i 26<=1):kG.ev ρ=ρ.i 26:=by
 show aA false (ρ.i 26) 1 1 0=_;unfold aA;simp only [Bool.false_eq_true,if_false];split<;>omega
theorem pV{x m:Int}(h0:0<=x)(h1:x<m):x.tmod m=x:=by
 rw [Int.tmod_eq_emod_of_nonneg h0];exact Int.emod_eq_of_lt h0 h1
theorem abw{ρ:Env}(h2:ρ.ok (bdL Gj))(h3:Co.holds ρ):Okb (ρ.rep σ0)/\muN (ρ.rep σ0)=ρ.i 3*1002-ρ.i 26:=by
 have b3: -1000<=ρ.i 3/\ρ.i 3<=1000:=h2 3 _ _ rfl;have b28:0<=ρ.i 28/\ρ.i 28<=8:=h2 28 _ _ rfl;have b25:0<=ρ.i 25/\ρ.i 25<=8:=h2 25 _ _ rfl;have b41:0<=ρ.i 41/\ρ.i 41<=50000000:=h2 41 _ _ rfl;have b26:0<=ρ.i 26/\ρ.i 26<=1:=h2 26 _ _ rfl;have p1: ¬ρ.i 25<ρ.i 28:=of_decide_eq_false (h3 (.lt (.var 25) (.var 28),false) (by simp [Co]))
 have es:=RG b26
 have em:muN (ρ.rep σ0)=ρ.i 3*1002-ρ.i 26:=by
  show ρ.i 3*1002-0-kG.ev ρ=_;rw [es]; omega
 refine ⟨{
  l:=⟨show -10000<=ρ.i 3 by omega,show ρ.i 3<=10000 by omega⟩
  r:=⟨show (0:Int)<=0 by omega,show (0:Int)<=1000 by omega⟩
  s:=⟨show 0<=ρ.i 28 by omega,show ρ.i 28<=ρ.i 25 by omega⟩
  t:=show ρ.i 25<=8 by omega
  o:=⟨show 0<=ρ.i 41 by omega,show ρ.i 41<=100000000 by omega⟩
  n:=⟨show (0:Int)<=0 by omega,show (0:Int)<=100000000 by omega⟩
  z:=⟨show 0<=kG.ev ρ by omega,show kG.ev ρ<=1 by omega⟩
  pn:= ?_
  po:= ?_},em⟩
 ·rw [em]; show 0+_<=_; omega
 ·rw [em]; show ρ.i 41+_<=_; omega
section
variable{G:Nat->Int->Int->Int->Int}(hG:RunG G)
include hG
theorem ad7{ρ:Env}(h1:ρ.std G gh)(h2:ρ.ok (bdL Gj))(h3:Co.holds ρ)(coh:Bool):BInv G coh (ρ.rep σ0) (xB.ev ρ):=by
 have:=N7 hG coh (ρ.rep σ0) h1 (abw h2 h3).1;rw [X6] at this;exact this
omit hG in
theorem F3{ρ:Env}(h1:ρ.std G gh)(coh:Bool)(k:IntKind)(j:Nat):(dB coh k j).ev ρ=DX G (FB coh) (xB.ev ρ) k j:=by
 show k.wrap (ag (fnI ρ (FB coh).KR (xB.ev ρ) 0 0) _)=_;rw [bY (by cases coh<;>decide),h1.1]
 rfl
theorem Yk{ρ:Env}(h1:ρ.std G gh)(h2:ρ.ok (bdL Gj))(h3:Co.holds ρ)(hm:bn (ρ.i 0))(coh:Bool):fC ρ (obB coh):=by
 obtain ⟨s0,s1,l,o0,o1,n0,n1,z,hd⟩:=ad7 hG h1 h2 h3 coh;have b3: -1000<=ρ.i 3/\ρ.i 3<=1000:=h2 3 _ _ rfl;have b28:0<=ρ.i 28/\ρ.i 28<=8:=h2 28 _ _ rfl;have b25:0<=ρ.i 25/\ρ.i 25<=8:=h2 25 _ _ rfl;have b41:0<=ρ.i 41/\ρ.i 41<=50000000:=h2 41 _ _ rfl;have b26:0<=ρ.i 26/\ρ.i 26<=1:=h2 26 _ _ rfl;have em:=(abw h2 h3).2;rw [em] at o1 n1;have e28:(ρ.rep σ0).i 28=ρ.i 28:=rfl;have e25:(ρ.rep σ0).i 25=ρ.i 25:=rfl;have e41:(ρ.rep σ0).i 41=ρ.i 41:=rfl;have e43:(ρ.rep σ0).i 43=0:=rfl;rw [e28] at s0;rw [e25] at s1 l;rw [e41] at o0 o1;rw [e43] at n0 n1;rw [<- F3 h1] at s0 s1;rw [<- F3 h1,<-F3 h1] at l;rw [<- F3 h1] at o0 o1;rw [<- F3 h1] at n0 n1;have er:(r9 coh).ev ρ=(dB coh .u8 25).ev ρ:=pV (m:=9) (by omega) (by omega)
 have es:(sX coh).ev ρ=(dB coh .u8 25).ev ρ:=by
  show aA true (ρ.i 25) ((r9 coh).ev ρ) (ρ.i 25) ((r9 coh).ev ρ)=_;rw [er];unfold aA;simp only [if_true];split<;>omega
 intro o ho _;simp only [obB,List.mem_cons,List.not_mem_nil,or_false] at ho
 rcases ho with rfl |rfl |rfl |rfl |rfl
 ·exact es
 ·show ρ.i 25-(sX coh).ev ρ=(dB coh .i8 26).ev ρ;rw [es,l]
 ·show ρ.i 41+(IntKind.u32.wrap ((dB coh .u32 27).ev ρ-ρ.i 41)).tmod 1002001=(dB coh .u32 27).ev ρ;rw [bI .u32 _ (show (0:Int)<=_ by omega) (show _<=(4294967295:Int) by omega),pV (by omega) (by omega)]
  omega
 ·show ((dB coh .u32 29).ev ρ).tmod 1002001=(dB coh .u32 29).ev ρ;exact pV (by omega) (by omega)
 ·have hh:=hd (ag (ρ.i 0) (3:Nat)) (ag (ρ.i 0) (7:Nat)) ⟨hm.k.pos,rfl,rfl⟩
  have ev:(vB coh 24).ev ρ=G (FB coh).KV (xB.ev ρ) 0 24:=by
   show fnI ρ (FB coh).KV (xB.ev ρ) 0 _=_;rw [bY (by cases coh<;>decide),h1.1]
   rfl
  rw [<- ev] at hh;show aD (aD ((vB coh 24).ev ρ) (3:Nat) (ag (ρ.i 0) (3:Nat))) (7:Nat) (ag (ρ.i 0) (7:Nat))=(vB coh 24).ev ρ;rw [<- hh.n,iq hh.pos,<-hh.c,iq hh.pos]
theorem JM{c:Con}{l:ba}{coh:Bool}{k i:Nat}{cv:T ab}(hb:c.bds=Gj)(hp:c.pre=Co)(hlen:c.os.length<1000000)(hk:(∃ el sl,gh k=cW el sl)\/ ∃el,gh k=dk el)(hg:c.os[i]? =some (.ghost k [.var 0] cv))(hreach: ∀(ρ:Env) B W f w args',au ρ B W f (aF c.os 0 .nil) w->az ρ f c.args args'-> ∃L,f i=some L)(hl:l.con.wf=true/\l.Ok PR G gh)(h:DZ c l coh=true):c.wf=true/\c.Ok PR G gh:=by
 obtain ⟨h1,h2⟩:=aa h;exact ⟨h2,Con.TW (M:= .var 0) mixed (K:=⟨[],[l]⟩) (ia rfl dj (lpC hl.1 hl.2 lpN)) hlen hk hg hreach 20 aG no' 12 _ (fun ρ q1 q2 q3 hm dec a b hd hab=>uv q2 hd (Yk hG q1 (by rw [<- hb]; exact q2) (by rw [<- hp]; exact q3) hm coh) hab) h1⟩
theorem W5:cBQ.wf=true/\cBQ.Ok PR G gh:=by
 refine JM hG (k:=1) (i:=1) (cv:=mu 1) rfl rfl (show 4<1000000 by decide) (.inl ⟨_,_,iW (by decide)⟩) rfl (fun ρ B W f w args' hr ha=> ?_) (Ur hG) (aa nR).1
 obtain ⟨L,hL⟩:=fM ha (x:=0) (i:=0) (o:=0) rfl;exact g9 hr (show 4<1000000 by decide) hL (show cBQ.os[0]? =some _ from rfl) (x:=0) (o:=0) (fc (l:=[ab.iface qPT (.ptr (some (1,0))),inS 2,im 3,dF]) rfl (by decide))
theorem XH:cBK.wf=true/\cBK.Ok PR G gh:=by
 refine JM hG (k:=0) (i:=2) (cv:= .nil) rfl rfl (show 5<1000000 by decide) (.inl ⟨_,_,iW (by decide)⟩) rfl (fun ρ B W f w args' hr ha=> ?_) (SX hG) (aa (aa nR).2).1
 obtain ⟨L,hL⟩:=fM ha (x:=0) (i:=0) (o:=0) rfl;obtain ⟨L1,hL1⟩:=g9 hr (show 5<1000000 by decide) hL (show cBK.os[0]? =some _ from rfl) (x:=0) (o:=0) (fc (l:=[ab.iface kPT (.ptr (some (1,0))),inS 3,im 4,dF]) rfl (by decide))
 exact eG hr (show 5<1000000 by decide) hL1 (show cBK.os[1]? =some (nH (b9 (.var 90)) 2) from rfl) (x:=0) (o:=0) (fc (l:= .ptr (some (2,0))::b9 (.var 90)) rfl (by decide))
theorem Tv:LF.wf=true/\LF.Ok PR G gh:=by
 refine JM hG (k:=2) (i:=2) (cv:= .nil) rfl rfl (show 5<1000000 by decide) (.inr ⟨_,rfl⟩) rfl (fun ρ B W f w args' hr ha=> ?_) (Of hG) (aa (aa (aa nR).2).2).1
 obtain ⟨L,hL⟩:=fM ha (x:=0) (i:=0) (o:=0) rfl;obtain ⟨L1,hL1⟩:=eG hr (show 5<1000000 by decide) hL (show LF.os[0]? =some _ from rfl) (x:=1) (o:=0) (fc (l:=[ab.ptr none,.ptr (some (1,0)),inS 3,im 4,dF]) rfl (by decide))
 exact eG hr (show 5<1000000 by decide) hL1 (show LF.os[1]? =some (pj (b9 (.var 90)) 2) from rfl) (x:=24) (o:=0) (fc (l:=b9 (.var 90)++[.ptr (some (2,0))]) rfl (by decide))
theorem TN:MM.wf=true/\MM.Ok PR G gh:=by
 refine JM hG (k:=2) (i:=2) (cv:= .nil) rfl rfl (show 5<1000000 by decide) (.inr ⟨_,rfl⟩) rfl (fun ρ B W f w args' hr ha=> ?_) (RP hG) (aa (aa (aa nR).2).2).2
 obtain ⟨L,hL⟩:=fM ha (x:=0) (i:=0) (o:=0) rfl;obtain ⟨L1,hL1⟩:=eG hr (show 5<1000000 by decide) hL (show MM.os[0]? =some _ from rfl) (x:=0) (o:=0) (fc (l:=[ab.ptr (some (1,0)),.ptr none,inS 3,im 4,dF]) rfl (by decide))
 exact eG hr (show 5<1000000 by decide) hL1 (show MM.os[1]? =some (nd (b9 (.var 90)) 2) from rfl) (x:=24) (o:=0) (fc (l:=b9 (.var 90)++[.ptr (some (2,0))]) rfl (by decide))
end
def HO:ah:= .arr [.u32] (.fn 2 (.var 24) (.var 28) bL) bL true
def inB:List (Nat×Int×Int):=[(25,0,8),(28,0,8)]
def inP:BE×Bool:=(.lt (.var 25) (.var 28),false)
def dC:Con:={g:=76,args:=[.sliceS 0 (.var 28) bL 1 false],os:=[inN],bds:=inB,pre:=[inP],res:= .sliceA 1 bL 1,os':=[inN,HO]}
def F5:Con:={dC with pre:=[inP,(.lt (.lit 0) bL,true),(.eq bL (.lit 0),false),(.lt bL (.lit 0),false),(.lt (.var 25) (.add (.var 28) bL),false)]}
def Gi:Con:={dC with args:=[.sliceS 0 (.var 28) bL 1 true],pre:=[inP,(.eq bL (.lit 0),true),(.lt (.lit 0) bL,false),(.lt bL (.lit 0),false),(.lt (.var 25) (.add (.var 28) bL),false)]}
def Em:Con:={dC with args:=[.slice none 0 0 0],pre:=[inP,(.eq bL (.lit 0),true)],res:= .slice none 0 0 0,os':=[inN]}
theorem Ii:(fq F5 ⟨[],[]⟩ 20 12 12&&(fq Gi ⟨[],[]⟩ 20 12 12&&(fq Em ⟨[],[]⟩ 20 12 12&&dC.wf)))=true:=by kernel_rfl
def wdB:List (Nat×Int×Int):=[(25,0,8),(28,0,8),(26,0,8)]
def wM:Con:={g:=68,args:=[.sliceA 0 bL 1,.sliceS 1 (.var 28) bL 1 false,.int .i64 (.var 26)],os:=[HO,inN],bds:=wdB,pre:=[inP,(.lt bL (.var 26),false)],res:= .tuple [],os':=[HO,inN]}
def lWs:ba:={con:=wM,key:=5,n:=26,sl:=[0,1,5],e:= .exit 0,sl':=[]}
def μWs:IE:= .sub bL (.var 26)
def zD(b:Bool):Dec:=match b with
 |true=>[(.lt (.var 26) bL,true),(.lt (.add (.var 28) (.var 26)) (.var 25),true),(.eq (.wrap .u32 (.fn 0 (.fn 2 (.var 24) (.var 28) bL) (.var 26) (.lit 0))) (.wrap .u32 (.fn 0 (.var 24) (.add (.var 28) (.var 26)) (.lit 0))),true)]
 |false=>[(.lt (.var 26) bL,false)]
def tWs(b:Bool):Out:=lWs.tree PR ⟨[],[]⟩ 40 aG no' 12 (zD b) μWs
def oK:Con:={g:=68,args:=[.sliceA 0 bL 1,.sliceS 1 (.var 28) bL 1 false],os:=[HO,inN],bds:=inB,pre:=[inP],res:= .bool (.lit true),os':=[HO,inN]}
theorem RI:((tWs true).all (wM.leaf (qP (bdL wM.bds) 12)) (zD true++wM.pre)&&((tWs false).all (wM.leaf (qP (bdL wM.bds) 12)) (zD false++wM.pre)&&(wM.wf&&(fq oK ⟨[],[lWs]⟩ 40 12 12&&oK.wf))))=true:=by kernel_rfl
section
variable{G:Nat->Int->Int->Int->Int}
theorem xi:dC.wf=true/\dC.Ok PR G gh:=by
 have h:=Ii;simp only [Bool.and_eq_true] at h;obtain ⟨r1,r2,r3,wf⟩:=h;refine ⟨wf,fun ρ h1 h2 h3 B W f w args' hr ha hn=> ?_⟩
 obtain ⟨v,hv0,hv⟩:=ha.get (i:=0) (v:= .sliceS 0 (.var 28) bL 1 false) rfl;have b25:0<=ρ.i 25/\ρ.i 25<=8:=h2 25 0 8 rfl;have b28:0<=ρ.i 28/\ρ.i 28<=8:=h2 28 0 8 rfl;have p0:inP.1.ev ρ=inP.2:=h3 inP (List.mem_cons_self ..);have p1: ¬ρ.i 25<ρ.i 28:=of_decide_eq_false p0;have q1:(BE.lt bL (.lit 0)).ev ρ=false:=decide_eq_false (show ¬ρ.i 25-ρ.i 28<0 by omega)
 have q2:(BE.lt (.var 25) (.add (.var 28) bL)).ev ρ=false:=decide_eq_false (show ¬ρ.i 25<ρ.i 28+(ρ.i 25-ρ.i 28) by omega)
 by_cases h0:0<ρ.i 25-ρ.i 28
 ·exact bA (c:=F5) bc r1 ρ h1 h2 (ak p0 (ak (decide_eq_true h0) (ak (decide_eq_false (show ¬ρ.i 25-ρ.i 28=0 by omega)) (ak q1 (ak q2 aw))))) B W f w args' hr ha hn
 have z0:ρ.i 25-ρ.i 28=0:=by omega
 have two:ai ρ f (.sliceS 0 (.var 28) bL 1 true) v->mw PR dC.g args' w fun v' w'=> ∃f',f.le f'/\Go.Sx.Outside f f' dC.os.length dC.os'.length/\au ρ B W f' (je dC.os' 0 .nil) w'/\ai ρ f' dC.res v':=fun hv2=>
  bA (c:=Gi) bc r2 ρ h1 h2 (ak p0 (ak (decide_eq_true z0) (ak (decide_eq_false h0) (ak q1 (ak q2 aw))))) B W f w args' hr (JO ha hv0 hv2) hn
 have three:v= .slice none 0 0->mw PR dC.g args' w fun v' w'=> ∃f',f.le f'/\Go.Sx.Outside f f' dC.os.length dC.os'.length/\au ρ B W f' (je dC.os' 0 .nil) w'/\ai ρ f' dC.res v':=fun hv3=>by
  subst hv3;refine Calls.mono (bA (c:=Em) bc r3 ρ h1 h2 (ak p0 (ak (decide_eq_true z0) aw)) B W f w args' hr (JO ha hv0 .nilSlice) hn) fun e w' ⟨v',e1,f',e2,e3,e4,e5⟩=> ?_
  have f1: ∀j,1<=j->f' j=none:=fun j hj=>(e3 j (.inr hj)).trans (hn j hj)
  refine ⟨v',e1,f',e2,fun j hj=> ?_,⟨e4.below,e4.bsize,e4.lt,fun x y Lx Ly ox oy hx hy gx gy hxy=> ?_,fun x L o hx gx=> ?_⟩,?_⟩
  ·rcases hj with hj |hj
   ·exact e3 j (.inl hj)
   ·exact e3 j (.inr (by have:(2:Nat)<=j:=hj; show (1:Nat)<=j; omega))
  ·have x0:x=0:=by
    rcases Nat.eq_zero_or_pos x with h |h
    ·exact h
    ·rw [f1 x h] at hx; cases hx
   have y0:y=0:=by
    rcases Nat.eq_zero_or_pos y with h |h
    ·exact h
    ·rw [f1 y h] at hy; cases hy
   exact absurd (x0.trans y0.symm) hxy
  ·have x0:x=0:=by
    rcases Nat.eq_zero_or_pos x with h |h
    ·exact h
    ·rw [f1 x h] at hx; cases hx
   subst x0;refine e4.obj 0 L o hx ?_;have ho:=(ik gx).1
   have:o=inN:=by
    have:(some inN:Option ah)=some o:=ho;cases this;rfl
   subst this;exact f9 [inN] 0 0 .nil inN rfl rfl (by decide)
  ·have e5:ai ρ f' (.slice none 0 0 0) v':=e5;cases e5;exact .sliceN z0
 generalize hb:(ab.sliceS 0 (.var 28) bL 1 false)=b at hv;cases hv with
 |sliceS hL q0 hl hc=>
  cases hb;exact two (.sliceS hL q0 hl hc)
 |sliceZ hl hz=>
  cases hb;rename_i a c;cases a with
  |some a=>exact two (.sliceZ hl (fun h=>by cases h))
  |none=>
   obtain ⟨rfl,_⟩:=hz rfl;exact three rfl
 |_=>cases hb
theorem Ft{c:Int}{s l i:Int}(hs:0<=s)(hl:0<=l)(hi:0<=i)(h:i<l):ag (aY c s l) i=ag c (s+i):=by
 obtain ⟨a,rfl⟩:=Int.eq_ofNat_of_zero_le hs;obtain ⟨n,rfl⟩:=Int.eq_ofNat_of_zero_le hl;obtain ⟨j,rfl⟩:=Int.eq_ofNat_of_zero_le hi;rw [ch c a n j (by omega)]
 rfl
theorem RQ:lWs.con.wf=true/\lWs.Ok PR G gh:=by
 have h:=RI;simp only [Bool.and_eq_true] at h;obtain ⟨t1,t2,wf,_⟩:=h;refine ⟨wf,ba.OX (L:=40) (pol:=aG) (pure:=no') (d:=12) (μ:=μWs) mixed wf rfl fun ρ h1 h2 h3=> ?_⟩
 have b25:0<=ρ.i 25/\ρ.i 25<=8:=h2 25 0 8 rfl;have b28:0<=ρ.i 28/\ρ.i 28<=8:=h2 28 0 8 rfl;have b26:0<=ρ.i 26/\ρ.i 26<=8:=h2 26 0 8 rfl
 have fin: ∀b,(zD b).holds ρ->(tWs b).all (wM.leaf (qP (bdL wM.bds) 12)) (zD b++wM.pre)=true-> ∃(K:Know) (facts:Dec),K.Ok PR G gh/\facts.holds ρ/\ ∃e s at' q,(lWs.tree PR K 40 aG no' 12 facts μWs).pick ρ=some (e,s)/\lWs.con.ends at' s=some q/\q.hold ρ:=fun b hf ht=>by
  obtain ⟨e,s,dec',hd',p1,p2⟩:=Out.bP (bJ hf h3) ht;unfold Con.leaf at p2;split at p2
  ·rename_i q hq;exact ⟨⟨[],[]⟩,zD b,bc,hf,e,s,_,q,p1,hq,f7 (fun a b hab=>uR h2 hd' hab) p2⟩
  ·cases p2
 by_cases hi:ρ.i 26<ρ.i 25-ρ.i 28
 ·refine fin true (ak (decide_eq_true hi) (ak (decide_eq_true (show ρ.i 28+ρ.i 26<ρ.i 25 by omega)) (ak (decide_eq_true ?_) aw))) t1
  show IntKind.u32.wrap (ag (aY (ρ.i 24) (ρ.i 28) (ρ.i 25-ρ.i 28)) (ρ.i 26))=IntKind.u32.wrap (ag (ρ.i 24) (ρ.i 28+ρ.i 26));rw [Ft b28.1 (by omega) b26.1 hi]
 ·exact fin false (ak (decide_eq_false hi) aw) t2
theorem x5:oK.wf=true/\oK.Ok PR G gh:=by
 have h:=RI;simp only [Bool.and_eq_true] at h;exact ⟨h.2.2.2.2,bA (ia rfl dj (lpC (RQ (G:=G)).1 RQ.2 lpN)) h.2.2.2.1⟩
end
def snB:List (Nat×Int×Int):=[(25,0,8),(28,0,8),(41,0,60000000),(26,0,1)]
def snP(coh:Bool):Dec:=[n6,(iQ,coh),inP]
def aaq:List ah:=[kH (.iface kPT (.ptr (some (1,0)))) (inS 3) (im 4) dF,sW mz 2,.ghost 0 [.var 0] .nil,inN,gL]
def zN:Con:={g:=35,args:=[pm],os:=aaq,pre:=snP true,bds:=snB,res:=zW 1 mz (sl6 5) (sl6 6) (.slice none 0 0 0) (.sliceA 7 bL 1) (.sliceA 8 (.var 41) 1),os':=aaq++[D6,uG,HO,gL]}
def ZI:List ah:=[kH (.iface qPT (.ptr (some (1,0)))) (inS 2) (im 3) dF,dZ 1 (.var 0),inN,gL]
def F8:Con:={g:=35,args:=[pm],os:=ZI,pre:=snP false,bds:=snB,res:=zW 2 mz (sl6 4) (sl6 5) (sl6 6) (.sliceA 7 bL 1) (.sliceA 8 (.var 41) 1),os':=ZI++[D6,uG,KM,HO,gL]}
def abk:List ah:=[fx [.ptr (some (1,0)),.ptr none] (inS 3) (im 4) dF,Q9 mz 2,.ghost 2 [.var 0] .nil,inN,gL]
def wq:Con:={g:=17,args:=[pm],os:=abk,pre:=snP true,bds:=snB,res:=zW 1 mz (sl6 5) (sl6 6) (.slice none 0 0 0) (inS 3) (im 4),os':=abk++[D6,uG]}
def Zw:List ah:=[fx [.ptr none,.ptr (some (1,0))] (inS 3) (im 4) dF,pj mz 2,.ghost 2 [.var 0] .nil,inN,gL]
def xw:Con:={g:=17,args:=[pm],os:=Zw,pre:=snP false,bds:=snB,res:=zW 2 mz (sl6 5) (sl6 6) (sl6 7) (inS 3) (im 4),os':=Zw++[D6,uG,KM]}
def acb:Know:=⟨gu::dC::ZF.cons,[]⟩
def abb:Know:=⟨gu::dC::aby.cons,[]⟩
theorem KA:(Bh wq 2 true ⟨[],[]⟩ []&&(Bh xw 2 false ⟨[],[]⟩ []&&(wq.wf&&xw.wf)))=true:=by kernel_rfl
theorem O4:BD zN acb=true:=by kernel_rfl
theorem PO:BD F8 abb=true:=by kernel_rfl
section
variable{G:Nat->Int->Int->Int->Int}(hG:cX G)
include hG
theorem QV:wq.wf=true/\wq.Ok PR G gh:=by
 have h:=KA;simp only [Bool.and_eq_true] at h;refine ⟨h.2.2.1,Con.qA mixed bc (k:=2) (i:=2) (N:=6) (el:=rfT) (M:= .var 0) (show 5<1000000 by decide) rfl rfl (cY hG) (fun ρ _ h3=>iP h3) (fun ρ B W f w args' hr ha=> ?_) 40 aG no' 12 12 (fun _=>[]) (fun coh ρ h1 h2 h3 hm=>ct) fun coh=> ?_⟩
 ·obtain ⟨L,hL⟩:=fM ha (x:=0) (i:=0) (o:=0) rfl;obtain ⟨L1,hL1⟩:=eG hr (show 5<1000000 by decide) hL (show wq.os[0]? =some _ from rfl) (x:=0) (o:=0) (fc (l:=[ab.ptr (some (1,0)),.ptr none,inS 3,im 4,dF]) rfl (by decide))
  exact eG hr (show 5<1000000 by decide) hL1 (show wq.os[1]? =some (Q9 mz 2) from rfl) (x:=24) (o:=0) (fc (l:=mz++[.ptr (some (2,0))]) rfl (by decide))
 ·cases coh
  ·exact .inl fun ρ _ h3=>vK (v:=true) (d:=[inP]) h3
  ·exact .inr h.1
theorem Su:xw.wf=true/\xw.Ok PR G gh:=by
 have h:=KA;simp only [Bool.and_eq_true] at h;refine ⟨h.2.2.2,Con.qA mixed bc (k:=2) (i:=2) (N:=6) (el:=rfT) (M:= .var 0) (show 5<1000000 by decide) rfl rfl (cY hG) (fun ρ _ h3=>iP h3) (fun ρ B W f w args' hr ha=> ?_) 40 aG no' 12 12 (fun _=>[]) (fun coh ρ h1 h2 h3 hm=>ct) fun coh=> ?_⟩
 ·obtain ⟨L,hL⟩:=fM ha (x:=0) (i:=0) (o:=0) rfl;obtain ⟨L1,hL1⟩:=eG hr (show 5<1000000 by decide) hL (show xw.os[0]? =some _ from rfl) (x:=1) (o:=0) (fc (l:=[ab.ptr none,.ptr (some (1,0)),inS 3,im 4,dF]) rfl (by decide))
  exact eG hr (show 5<1000000 by decide) hL1 (show xw.os[1]? =some (pj mz 2) from rfl) (x:=24) (o:=0) (fc (l:=mz++[.ptr (some (2,0))]) rfl (by decide))
 ·cases coh
  ·exact .inr h.2.1
  ·exact .inl fun ρ _ h3=>vK (v:=false) (d:=[inP]) h3
theorem PC:zN.wf=true/\zN.Ok PR G gh:=by
 have h:=O4;simp only [BD,Bool.and_eq_true] at h;have kn:acb.Ok PR G gh:=bB h.2.2 (aJ oJ (aJ xi.2 (aJ (lM (by decide)) (aJ (yb hG (by decide)) (aJ (jm hG (by decide)).2 (aJ (jm hG (by decide)).2 (aJ (jm hG (by decide)).2 (aJ (jm hG (by decide)).2 (aJ (jm hG (by decide)).2 (aJ (jm hG (by decide)).2 dj))))))))))
 refine ⟨h.2.1,Con.jX mixed kn (k:=0) (i:=2) (el:=gK 0) (sl:=slT) (M:= .var 0) (cv:= .nil) (show 5<1000000 by decide) (iW (by decide)) rfl (fun ρ B W f w args' hr ha=> ?_) 20 aG no' 12 _ (fun ρ h1 h2 h3 hm dec a b hd hab=>uv h2 hd (Kh hG h1 hm (iP (ρ:=ρ) (d:=[(iQ,true),inP]) h3)) hab) h.1⟩
 obtain ⟨L,hL⟩:=fM ha (x:=0) (i:=0) (o:=0) rfl;obtain ⟨L1,hL1⟩:=g9 hr (show 5<1000000 by decide) hL (show zN.os[0]? =some _ from rfl) (x:=0) (o:=0) (fc (l:=[ab.iface kPT (.ptr (some (1,0))),inS 3,im 4,dF]) rfl (by decide))
 exact eG hr (show 5<1000000 by decide) hL1 (show zN.os[1]? =some (sW mz 2) from rfl) (x:=0) (o:=0) (fc (l:= .ptr (some (2,0))::mz) rfl (by decide))
theorem Sg:F8.wf=true/\F8.Ok PR G gh:=by
 have h:=PO;simp only [BD,Bool.and_eq_true] at h;have kn:abb.Ok PR G gh:=bB h.2.2 (aJ oJ (aJ xi.2 (aJ (lM (by decide)) (aJ (yb hG (by decide)) (aJ (jn hG (by decide)).2 (aJ (jn hG (by decide)).2 (aJ (jn hG (by decide)).2 (aJ (jn hG (by decide)).2 (aJ (jn hG (by decide)).2 (aJ (jn hG (by decide)).2 (aJ (jk hG (by decide)).2 (aJ (jk hG (by decide)).2 (aJ (jk hG (by decide)).2 (aJ (jk hG (by decide)).2 (aJ (jk hG (by decide)).2 (aJ (jk hG (by decide)).2 dj))))))))))))))))
 refine ⟨h.2.1,Con.jX mixed kn (k:=1) (i:=1) (el:=gK 1) (sl:=slT) (M:= .var 0) (cv:=mu 1) (show 4<1000000 by decide) (iW (by decide)) rfl (fun ρ B W f w args' hr ha=> ?_) 20 aG no' 12 _ (fun ρ h1 h2 h3 hm dec a b hd hab=>uv h2 hd (Kh hG h1 hm (iP (ρ:=ρ) (d:=[(iQ,false),inP]) h3)) hab) h.1⟩
 obtain ⟨L,hL⟩:=fM ha (x:=0) (i:=0) (o:=0) rfl;exact g9 hr (show 4<1000000 by decide) hL (show F8.os[0]? =some _ from rfl) (x:=0) (o:=0) (fc (l:=[ab.iface qPT (.ptr (some (1,0))),inS 2,im 3,dF]) rfl (by decide))
end
def Hc:Con:={g:=22,args:=[.sliceA 0 (.var 43) 27,.sliceA 1 (.var 43) 27,.int .i64 (.var 2)],os:=[uZ,uZ],bds:=[(43,0,60000000),(2,0,60000000)],pre:=[(.lt (.var 43) (.var 2),false)],res:= .tuple [],os':=[uZ,uZ]}
def lEv:ba:={con:=Hc,key:=5,n:=26,sl:=[0,1,5],e:= .exit 0,sl':=[]}
def tEv:Out:=lEv.tree PR ⟨[],[]⟩ 40 aG no' 12 [] (.sub (.var 43) (.var 2))
def n9:Con:={g:=22,args:=[.sliceA 0 (.var 43) 27,.sliceA 1 (.var 43) 27],os:=[uZ,uZ],bds:=[(43,0,60000000)],res:= .bool (.lit true),os':=[uZ,uZ]}
theorem Pc:(tEv.all (Hc.leaf (qP (bdL Hc.bds) 12)) Hc.pre&&(Hc.wf&&(fq n9 ⟨[],[lEv]⟩ 40 12 12&&n9.wf)))=true:=by kernel_rfl
theorem Qk{G:Nat->Int->Int->Int->Int}:lEv.con.wf=true/\lEv.Ok PR G gh:=by
 have h:=aa Pc;have w:lEv.con.wf=true:=(aa h.2).1;have hL:Hc.Leaves G gh tEv:=Con.vG (c:=Hc) [] (fun _ _ _ _=>aw) _ (fun ρ h1 h2 h3 dec a b hd hab=>uR h2 hd hab) h.1
 unfold tEv at hL;exact ⟨w,ba.f6 (c:=lEv) mixed (K:=⟨[],[]⟩) bc w rfl (L:=40) (pol:=aG) (pure:=no') (d:=12) (facts:=[]) (fun _ _ _ _=>aw) hL⟩
theorem yo{G:Nat->Int->Int->Int->Int}:n9.wf=true/\n9.Ok PR G gh:=by
 have h:=aa (aa (aa Pc).2).2;exact ⟨h.2,bA (ia rfl dj (lpC (Qk (G:=G)).1 Qk.2 lpN)) h.1⟩
def FL1(coh:Bool):Fns:=match coh with
 |true=>⟨140,141,[10,11,20,21,22,23]⟩
 |false=>⟨142,143,[10,11,20,21,22,23]⟩
def PG(l:Bool):IE:=match l with
 |true=> .lit 8
 |false=> .var 27
def stL(coh:Bool):List ab:=dgL (FL1 coh) aW 0
def mL(coh:Bool):IE:=kvE (FL1 coh) 24
def inT(l:Bool):ah:= .arr [.u32] (.var 24) (PG l) true
def mi(coh l:Bool):Con:={g:=23,args:=[ph,.agg (xr [20,21,22,23]),Sz],os:=[fu,inO],bds:=D8,pre:=is2 coh::many l::hd6 coh,res:= .tuple [.ptr (some (2,0)),.ptr (some (3,0))],os':=match coh with
 |true=>[fu,inO,kH (.iface kPT (.ptr (some (4,0)))) (.sliceA 6 (PG l) 1) (.slice none 0 0 0) (.bool (.lit false)),fx [.ptr (some (7,0)),.ptr none] (.sliceA 9 (PG l) 1) (.slice none 0 0 0) (.bool (.lit false)),nH (stL true) 5,.ghost 0 [mL true] .nil,inT l,nd (stL true) 8,.ghost 2 [mL true] .nil,inT l]
 |false=>[fu,inO,kH (.iface qPT (.ptr (some (4,0)))) (.sliceA 5 (PG l) 1) (.slice none 0 0 0) (.bool (.lit false)),fx [.ptr none,.ptr (some (6,0))] (.sliceA 8 (PG l) 1) (.slice none 0 0 0) (.bool (.lit false)),.ghost 1 [mL false] (aX (stL false) 2),inT l,pj (stL false) 7,.ghost 2 [mL false] .nil,inT l]}
def DQ(coh:Bool):Know:=match coh with
 |true=>⟨[xG true,gF,BT,gu],[]⟩
 |false=>⟨[xG false,gn,Bi,gu],[]⟩
def Wq(coh l:Bool):Out:=(mi coh l).tree PR (DQ coh) 40 aG no' 12 []
def acq(coh:Bool):List IE:=(stF (match coh with |true=>FLK |false=>FLQ)).map fun v=>match v with
 | .int _ e=>e
 |_=> .lit 0
def hL(coh:Bool):HT:= .done (acq coh++[mK coh])
theorem Oq:([true,false].all fun coh=>([true,false].all fun l=>(Wq coh l).all ((mi coh l).gG (FL1 coh) (hL coh)) (mi coh l).pre&&(mi coh l).wf)&&((hL coh).rt.only (bR (FL1 coh).vars) (FL1 coh).KR&&(DQ coh).cons.all Con.wf))=true:=by kernel_rfl
structure agt (G:Nat->Int->Int->Int->Int):Prop extends RunG G where
 lk:(FL1 true).Def G (hL true).rt
 lq:(FL1 false).Def G (hL false).rt
def aal:RT:=(jQ FKS).rt
def acr:RT:=(fk true true).rt
def aco:RT:=(fk false true).rt
def Zg:RT:=(hL true).rt
def acn:RT:=(hL false).rt
theorem ON:JJ.only (bR FR.vars) 106=true:=(aa (aa (aa mX).2).2).1
theorem TQ:aal.only (bR FRK.vars) 134=true:=(aa (aa (aa yI).2).2).1
theorem U8:acr.only (bR (FB true).vars) 136=true:=(aa JK).1
theorem Sv:aco.only (bR (FB false).vars) 138=true:=(aa JK).2
theorem vj(coh:Bool):(([true,false].all fun l=>(Wq coh l).all ((mi coh l).gG (FL1 coh) (hL coh)) (mi coh l).pre&&(mi coh l).wf)&&((hL coh).rt.only (bR (FL1 coh).vars) (FL1 coh).KR&&(DQ coh).cons.all Con.wf))=true:=
 List.all_eq_true.1 Oq coh (by cases coh<;>simp)
theorem SK:Zg.only (bR (FL1 true).vars) 140=true:=(aa (aa (vj true)).2).1
theorem Up:acn.only (bR (FL1 false).vars) 142=true:=(aa (aa (vj false)).2).1
attribute [local irreducible] kT pa BQ gP sM
theorem Vq(t0 t1 t2 t3 t4 t5 t6 t7 t8 t9 t10 t11 t12 t13 t14 t15 t16 t17 t18 t19 t20:RT)(h0:t0.only (bR FD.vars) 100=true)(h1:t1.only (bR FF.vars) 102=true)(h2:t2.only (bR FS.vars) 104=true)(h3:t3.only (bR FR.vars) 106=true)(h4:t4.only (bR FK.vars) 108=true)(h5:t5.only (bR FKS.vars) 110=true)(h6:t6.only (bR FM2.vars) 112=true)(h7:t7.only (bR FE2.vars) 116=true)(h8:t8.only (bR FCK.vars) 118=true)(h9:t9.only (bR FM3.vars) 120=true)(h10:t10.only (bR FT3.vars) 122=true)(h11:t11.only (bR FE3.vars) 124=true)(h12:t12.only (bR FCQ.vars) 126=true)(h13:t13.only (bR FEQ.vars) 128=true)(h14:t14.only (bR FLK.vars) 130=true)(h15:t15.only (bR FLQ.vars) 132=true)(h16:t16.only (bR FRK.vars) 134=true)(h17:t17.only (bR (FB true).vars) 136=true)(h18:t18.only (bR (FB false).vars) 138=true)(h19:t19.only (bR (FL1 true).vars) 140=true)(h20:t20.only (bR (FL1 false).vars) 142=true): ∃G,cX G/\gg G/\FD.Def G t0/\FF.Def G t1/\FS.Def G t2/\FR.Def G t3/\FK.Def G t4/\FKS.Def G t5/\FM2.Def G t6/\FE2.Def G t7/\FCK.Def G t8/\FM3.Def G t9/\FT3.Def G t10/\FE3.Def G t11/\FCQ.Def G t12/\FEQ.Def G t13/\FLK.Def G t14/\FLQ.Def G t15/\FRK.Def G t16/\(FB true).Def G t17/\(FB false).Def G t18/\(FL1 true).Def G t19/\(FL1 false).Def G t20:=by
 obtain ⟨G,_,b,p,d⟩:=uA [(FD,t0,100),(FF,t1,102),(FS,t2,104),(FR,t3,106),(FK,t4,108),(FKS,t5,110),(FM2,t6,112),(FE2,t7,116),(FCK,t8,118),(FM3,t9,120),(FT3,t10,122),(FE3,t11,124),(FCQ,t12,126),(FEQ,t13,128),(FLK,t14,130),(FLQ,t15,132),(FRK,t16,134),((FB true),t17,136),((FB false),t18,138),((FL1 true),t19,140),((FL1 false),t20,142)] 100 gA (fun _ _ _=>rfl) (by show rn 100 [(FD,100),(FF,102),(FS,104),(FR,106),(FK,108),(FKS,110),(FM2,112),(FE2,116),(FCK,118),(FM3,120),(FT3,122),(FE3,124),(FCQ,126),(FEQ,128),(FLK,130),(FLQ,132),(FRK,134),((FB true),136),((FB false),138),((FL1 true),140),((FL1 false),142)]=true; decide) (fun x hx=>by
  simp only [List.mem_cons,List.not_mem_nil,or_false] at hx
  rcases hx with rfl |rfl |rfl |rfl |rfl |rfl |rfl |rfl |rfl |rfl |rfl |rfl |rfl |rfl |rfl |rfl |rfl |rfl |rfl |rfl |rfl
  ·exact h0
  ·exact h1
  ·exact h2
  ·exact h3
  ·exact h4
  ·exact h5
  ·exact h6
  ·exact h7
  ·exact h8
  ·exact h9
  ·exact h10
  ·exact h11
  ·exact h12
  ·exact h13
  ·exact h14
  ·exact h15
  ·exact h16
  ·exact h17
  ·exact h18
  ·exact h19
  ·exact h20)
 exact ⟨G,fun c hc x y z=>by rw [b c hc],p,d (FD,t0,100) (by simp),d (FF,t1,102) (by simp),d (FS,t2,104) (by simp),d (FR,t3,106) (by simp),d (FK,t4,108) (by simp),d (FKS,t5,110) (by simp),d (FM2,t6,112) (by simp),d (FE2,t7,116) (by simp),d (FCK,t8,118) (by simp),d (FM3,t9,120) (by simp),d (FT3,t10,122) (by simp),d (FE3,t11,124) (by simp),d (FCQ,t12,126) (by simp),d (FEQ,t13,128) (by simp),d (FLK,t14,130) (by simp),d (FLQ,t15,132) (by simp),d (FRK,t16,134) (by simp),d ((FB true),t17,136) (by simp),d ((FB false),t18,138) (by simp),d ((FL1 true),t19,140) (by simp),d ((FL1 false),t20,142) (by simp)⟩
theorem ac1: ∃G,agt G:=by
 obtain ⟨G,b,p,d0,d1,d2,d3,d4,d5,d6,d7,d8,d9,d10,d11,d12,d13,d14,d15,d16,d17,d18,d19,d20⟩:=Vq kT pa BQ JJ gP sM rM2 rE2 rCK rM3 rT3 rE3 rCQ rEQ rLK rLQ aal acr aco Zg acn RH Q1 Tb ON Mj Um o1 o2 o3 o4 o5 o6 o7 o8 o9 o10 TQ U8 Sv SK Up;exact ⟨G,{made:={base:=b,m2:=d6,e2:=d7,ck:=d8,m3:=d9,t3:=d10,e3:=d11,cq:=d12,eq:=d13,lk:=d14,lq:=d15},rH:=p,d:=d0,f:=d1,s:=d2,r:=d3,k:=d4,ks:=d5,rk:=d16,bk:=d17,bq:=d18,lk:=d19,lq:=d20}⟩
end
end Go.Proofs.YtbhlmedfhilkbaaGreat
namespace Go.Proofs.YtbhlmedfhilkbaaGreat
open Go Go.Sx
set_option maxRecDepth 1000000
noncomputable section
def hdL(coh:Bool):Dec:=[(.eq (.fn 0 (mL coh) (.lit 3) (.lit 0)) (.lit 6),true),(.eq (.fn 0 (mL coh) (.lit 7) (.lit 0)) (.lit 1),coh)]
def XB(g:Nat)(coh l:Bool)(pre:Dec):Con:=Yw g coh l (hdL coh++pre)
section
variable{G:Nat->Int->Int->Int->Int}(hG:agt G)
include hG
theorem Kp(coh:Bool):(FL1 coh).Def G (hL coh).rt:=by
 cases coh
 ·exact hG.lq
 ·exact hG.lk
theorem aaj{ρ:Env}(h1:ρ.std G gh)(coh:Bool):(mL coh).ev ρ=(mK coh).ev ρ:=by
 have h:=Kp hG coh ρ h1.1;have h:(FL1 coh).is G ((FL1 coh).x.ev ρ) ((acq coh++[mK coh]).map (·.ev ρ)):=h;show fnI ρ (FL1 coh).KV ((FL1 coh).x.ev ρ) 0 24=_;rw [bY (by cases coh<;>decide),h1.1,h.2 24]
 cases coh<;>rfl
theorem Xc{ρ:Env}(h1:ρ.std G gh)(h2:ρ.ok (bdL D8))(coh:Bool):(hdL coh).holds ρ:=by
 have h:=Rh hG.made h1 h2 coh;have e:=aaj hG h1 coh;have a1:decide (ag ((mK coh).ev ρ) 3=6)=true:=h (.eq (.fn 0 (mK coh) (.lit 3) (.lit 0)) (.lit 6),true) (by simp [hd6])
 have a2:decide (ag ((mK coh).ev ρ) 7=1)=coh:=h (.eq (.fn 0 (mK coh) (.lit 7) (.lit 0)) (.lit 1),coh) (by simp [hd6])
 rw [<- e] at a1 a2;exact ak a1 (ak a2 aw)
theorem OR(coh:Bool):(DQ coh).Ok PR G gh:=by
 have w:=(aa (aa (vj coh)).2).2;cases coh
 ·exact bB w (aJ (Fi false) (aJ (Mu hG.made).2 (aJ (LU hG.made.base) (aJ oJ dj))))
 ·exact bB w (aJ (Fi true) (aJ (LW hG.made).2 (aJ (MJ hG.made.base) (aJ oJ dj))))
theorem Ec(coh l:Bool):(mi coh l).wf=true/\(mi coh l).Ok PR G gh:=by
 have h:=List.all_eq_true.1 (aa (vj coh)).1 l (by cases l<;>simp)
 obtain ⟨h1,h2⟩:=aa h;have hk:7<(FL1 coh).KR/\7<(FL1 coh).KV:=by cases coh<;>decide
 exact ⟨h2,Con.f6 (K:=DQ coh) (L:=40) (pol:=aG) (pure:=no') (d:=12) (facts:=[]) mixed (OR hG coh) (fun _ _ _ _=>aw) (Con.lj (c:=mi coh l) [] (fun _ _ _ _=>aw) hk (t:=hL coh) h1 (Kp hG coh))⟩
theorem ac2{g:Nat}(h: ∀coh l,(XB g coh l []).Ok PR G gh):(Ti g).Ok PR G gh:=
 NM hG.made fun coh l ρ h1 h2 h3=>h coh l ρ h1 h2 fun p hp=>by
  have h3': ∀p∈is2 coh::many l::(hd6 coh++[]),p.1.ev ρ=p.2:=h3;have hp':p∈is2 coh::many l::(hd6 coh++(hdL coh++[])):=hp;simp only [List.append_nil,List.mem_cons,List.mem_append] at hp' h3'
  rcases hp' with rfl |rfl |hp |hp
  ·exact h3' _ (.inl rfl)
  ·exact h3' _ (.inr (.inl rfl))
  ·exact h3' _ (.inr (.inr hp))
  ·exact Xc hG h1 h2 coh p hp
end
end
end Go.Proofs.YtbhlmedfhilkbaaGreat

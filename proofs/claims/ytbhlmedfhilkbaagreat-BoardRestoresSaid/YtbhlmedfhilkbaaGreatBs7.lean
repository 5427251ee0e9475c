/- Part Bs7. No condition. -/
import Derived.Test.YtbhlmedfhilkbaaGreatLa1
import Derived.Test.YtbhlmedfhilkbaaGreatBs2
import Derived.Test.YtbhlmedfhilkbaaGreatBs4
import Derived.Test.YtbhlmedfhilkbaaGreatBs6
set_option linter.all false
namespace Go.Proofs.YtbhlmedfhilkbaaGreat
open Go Go.Sx
set_option maxRecDepth 1000000
noncomputable section
abbrev acs:TypeId:=9
def dF:ab:= .bool (.eq (.var 26) (.lit 1))
def uG:ah:= .cells (aX ((List.range 6).map fun p=> .strS (pgS p) (.lit 256)) 0) acs true 6
def KM:ah:= .cells (aX ((List.range 6).map fun p=> .strS (imS p) (.lit 256)) 0) acs true 6
def D6:ah:= .cells (aX ((List.range 6).map fun p=> .int .i64 (rgS p)) 0) aa6 true 6
def sl6(j:Nat):ab:= .slice (some (j,0)) 6 6 1
def zW(kind:Int)(st:List ab)(r d c i o:ab):ab:= .agg (.int .i64 (.lit kind)::(st++[r,d,c,i,o]))
def kH(m i o stop:ab):ah:= .cells (aX [m,i,o,stop] 0) 120 true 4
def ru(k:Nat):Con:={tM k with pre:=[n6],res:= .int .i64 (.lit 6)}
def ZF:Know:=⟨[ru 0,oH 0,kq 0,kq 1,kq 2,kq 3,kq 4,kq 5],[]⟩
def aby:Know:=⟨[ru 1,oH 1,lI 0,lI 1,lI 2,lI 3,lI 4,lI 5,lC 0,lC 1,lC 2,lC 3,lC 4,lC 5],[]⟩
def Yo:List (Dec×IE×IE):=(List.range 6).map fun p=>([],rgS p,.wrap .i64 (.fn 23 (.var 0) (.lit (.ofNat p)) (.lit 0)))
def ZZ:List ab:=b9 (.var 91)
def reK(M:IE):Nat->IE
 |0=>M
 |p+1=> .fn 31 (puE (reK M p) p) (.lit p) (rgS p)
def reQ(M:IE):Nat->IE
 |0=>M
 |p+1=> .fn 34 (reQ M p) (.lit p) (.fn 9 (imS p) (.lit 256) (.lit 0))
def clB:List (Nat×Int×Int):=[(25,0,60000000)]
def gu:Con:={g:=76,args:=[.sliceA 0 (.var 25) 1],os:=[inN],bds:=clB,res:= .sliceA 1 (.var 25) 1,os':=[inN,inN]}
def Kk:Con:={gu with pre:=[(.lt (.lit 0) (.var 25),true)]}
def KG:Con:={gu with args:=[.sliceS 0 (.lit 0) (.lit 0) 1 true],pre:=[(.eq (.var 25) (.lit 0),true)]}
def KI:Con:={gu with args:=[.slice none 0 0 0],pre:=[(.eq (.var 25) (.lit 0),true)],res:= .slice none 0 0 0,os':=[inN]}
theorem M9:(fq Kk ⟨[],[]⟩ 20 12 12&&(fq KG ⟨[],[]⟩ 20 12 12&&(fq KI ⟨[],[]⟩ 20 12 12&&gu.wf)))=true:=by kernel_rfl
theorem JO{ρ:Env}{f:Ren}{a b:ab}{args':Array Value}{v:Value}(ha:az ρ f [a] args')(hv:args'[0]? =some v)(h:ai ρ f b v):az ρ f [b] args':=by
 refine ⟨ha.1,fun i x v' hx hv'=> ?_⟩
 match i,hx with
 |0,hx=>
  cases hx;rw [hv] at hv';cases hv';exact h
 |i+1,hx=>simp at hx
theorem oJ{G:Nat->Int->Int->Int->Int}:gu.Ok PR G gh:=by
 have h:=M9;simp only [Bool.and_eq_true] at h;obtain ⟨r1,r2,r3,_⟩:=h;intro ρ h1 h2 h3 B W f w args' hr ha hn;obtain ⟨v,hv0,hv⟩:=ha.get (i:=0) (v:= .sliceA 0 (.var 25) 1) rfl;have h25:=h2 25 0 60000000 rfl
 by_cases h0:ρ.i 25=0
 ·have hpre:Dec.holds ρ [(.eq (.var 25) (.lit 0),true)]:=fun p hp=>by
   rw [List.mem_singleton.1 hp];exact decide_eq_true h0
  have two':ai ρ f (.sliceS 0 (.lit 0) (.lit 0) 1 true) v->mw PR gu.g args' w fun v' w'=> ∃f',f.le f'/\Go.Sx.Outside f f' gu.os.length gu.os'.length/\au ρ B W f' (je gu.os' 0 .nil) w'/\ai ρ f' gu.res v':=fun hv2=>
   bA (c:=KG) bc r2 ρ h1 h2 hpre B W f w args' hr (JO ha hv0 hv2) hn
  generalize hb:(ab.sliceA 0 (.var 25) 1)=b at hv;cases hv with
  |sliceA hL hl hc hs=>
   cases hb;have e:(IE.var 25).ev ρ=0:=h0;rename_i c L
   have:=two' (by
    rw [e];have:=ai.sliceS (ρ:=ρ) (f:=f) (i:=0) (s:=1) (st:= .lit 0) (len:= .lit 0) (nn:=true) (c:=c) hL (Int.le_refl 0) (Int.le_refl 0) (Nat.zero_le _);exact this)
   exact this
  |sliceN hl=>
   cases hb;rename_i a;cases a with
   |some a=>exact two' (.sliceZ rfl (fun h=>by cases h))
   |none=>
    refine Calls.mono (bA (c:=KI) bc r3 ρ h1 h2 hpre B W f w args' hr (JO ha hv0 .nilSlice) hn) fun e w' ⟨v',e1,f',e2,e3,e4,e5⟩=> ?_
    have f1: ∀j,1<=j->f' j=none:=fun j hj=>(e3 j (.inr hj)).trans (hn j hj)
    refine ⟨v',e1,f',e2,fun j hj=> ?_,⟨e4.below,e4.bsize,e4.lt,fun x y Lx Ly ox oy hx hy gx gy hxy=> ?_,fun x L o hx gx=> ?_⟩,?_⟩
    ·rcases hj with hj |hj
     ·exact e3 j (.inl hj)
     ·exact e3 j (.inr (by have:(2:Nat)<=j:=hj; show (1:Nat)<=j; omega))
    ·have x0:x=0:=by
      rcases Nat.eq_zero_or_pos x with h |h
      ·exact h
      ·rw [f1 x h] at hx; cases hx
     have y0:y=0:=by
      rcases Nat.eq_zero_or_pos y with h |h
      ·exact h
      ·rw [f1 y h] at hy; cases hy
     exact absurd (x0.trans y0.symm) hxy
    ·have x0:x=0:=by
      rcases Nat.eq_zero_or_pos x with h |h
      ·exact h
      ·rw [f1 x h] at hx; cases hx
     subst x0;refine e4.obj 0 L o hx ?_;have ho:=(ik gx).1
     have:o=inN:=by
      have:(some inN:Option ah)=some o:=ho;cases this;rfl
     subst this;exact f9 [inN] 0 0 .nil inN rfl rfl (by decide)
    ·have e5:ai ρ f' (.slice none 0 0 0) v':=e5;cases e5;exact .sliceN h0
  |_=>cases hb
 ·exact bA (c:=Kk) bc r1 ρ h1 h2 (fun p hp=>by
   rw [List.mem_singleton.1 hp];exact decide_eq_true (show (0:Int)<ρ.i 25 by omega)) B W f w args' hr ha hn
theorem LC{p:Nat}(hp:p<6):rI p=true:=CK (f:=rI) (by unfold six; rw [VG,U2,SW,SS,Un,VI]; rfl) hp
theorem Nl{p:Nat}(hp:p<6):se p=true:=CK (f:=se) (by unfold six; rw [Vz,U1,Vi,U7,Tk,VD]; rfl) hp
theorem LJ{p:Nat}(hp:p<6):qI p=true:=CK (f:=qI) (by unfold six; rw [Ux,VJ,VE,Uc,SL,TZ]; rfl) hp
theorem w5{ρ:Env}{bd:Bd}(hρ:ρ.ok bd){c p:Nat}{row:IE}{dec:Dec}(hd:dec.holds ρ)(hv: ∀(j:Nat) (z:Int),j<256->IntKind.u8.wrap (fnI ρ c (ρ.i 0) ((256*p+j:Nat):Int) z)=ag (row.ev ρ) (j:Nat)){a b:IE}(h:Sf bd c row p dec a b=true):a.ev ρ=b.ev ρ:=by
 unfold Sf at h;split at h
 ·rename_i c0 r j z k c' x m z';obtain ⟨q1,h⟩:=aa h;obtain ⟨q2,h⟩:=aa h;obtain ⟨q3,h⟩:=aa h;obtain ⟨q4,h⟩:=aa h;obtain ⟨q5,h⟩:=aa h;obtain ⟨q6,q7⟩:=aa h;have q1:=Nat.eq_of_beq_eq_true q1;have q2:=aH q2;have q3:=Nat.eq_of_beq_eq_true q3;have q4:=Nat.eq_of_beq_eq_true q4;have q5:j<256:=by simpa [Nat.blt_eq] using q5
  have q6:=IE.eq_eq q6;have q7:=IE.eq_eq q7;subst q1 q2 q3 q6 q7;have e:m=256*p+j:=q4;subst e;exact (hv j (z'.ev ρ) q5).symm
 ·exact IE.cf hρ hd h
section
variable{G:Nat->Int->Int->Int->Int}(hG:cX G)
include hG
theorem P0{ρ:Env}(h1:ρ.std G gh)(hm:bn (ρ.i 0))(hn:mN (ρ.i 0)=6){p:Nat}(hp:p<6)(j:Nat)(z:Int)(hj:j<256):IntKind.u8.wrap (fnI ρ 20 (ρ.i 0) ((256*p+j:Nat):Int) z)=ag ((pgS p).ev ρ) (j:Nat):=by
 rw [cj hG h1 (by decide) (by decide),(me hG h1 hn hp j hj).1]
 have e6:(mN (ρ.i 0)).toNat=6:=by rw [hn]; rfl
 have hb:=(hm.byte (j:=256*p+j) (by omega)).1
 show IntKind.u8.wrap (pkS (ρ.i 0) ((256*p+j:Nat):Int))=_;unfold pkS inM;rw [hn,decide_eq_true (show ((256*p+j:Nat):Int) / 256<6 by omega),if_pos rfl,show ((256*p+j:Nat):Int)*4=((4*(256*p+j):Nat):Int) by omega]
 show IntKind.u8.wrap (IntKind.u8.wrap (mD (ρ.i 0) (256*p+j)))=_;rw [cZ hb,cZ hb]
theorem Yy{ρ:Env}(h1:ρ.std G gh)(hm:bn (ρ.i 0))(hn:mN (ρ.i 0)=6)(hc:aP (ρ.i 0)=false){p:Nat}(hp:p<6)(j:Nat)(z:Int)(hj:j<256):IntKind.u8.wrap (fnI ρ 21 (ρ.i 0) ((256*p+j:Nat):Int) z)=ag ((imS p).ev ρ) (j:Nat):=by
 rw [cj hG h1 (by decide) (by decide),(me hG h1 hn hp j hj).2]
 have e6:(mN (ρ.i 0)).toNat=6:=by rw [hn]; rfl
 have hb:=(hm.byte (j:=256*p+j) (by omega)).2 hc
 show IntKind.u8.wrap (cdS (ρ.i 0) ((256*p+j:Nat):Int))=_;unfold cdS inM;rw [hn,decide_eq_true (show ((256*p+j:Nat):Int) / 256<6 by omega),if_pos rfl,hc,show ((256*p+j:Nat):Int)*4+1=((4*(256*p+j)+1:Nat):Int) by omega]
 show IntKind.u8.wrap (IntKind.u8.wrap (mC (ρ.i 0) (256*p+j)))=_;rw [cZ hb,cZ hb]
omit hG in
theorem BC{ρ:Env}{f:Ren}{args:List ab}{args':Array Value}{x i o:Nat}{m:String}{t:TypeId}(ha:az ρ f args args')(h:args[x]? =some (PH m t (.ptr (some (i,o))))): ∃L,f i=some L:=by
 obtain ⟨v,_,hv⟩:=ha.get h;unfold PH at hv;cases hv with
 |func h1 h2 h3 h4=>
  rename_i a' b' _;have hs:0<a'.size:=by rw [h1]; exact Nat.zero_lt_one
  have hi:=h3 0 _ a'[0] rfl (Array.getElem?_eq_getElem hs);generalize a'[0]=y at hi;cases hi with
  |iface h=>
   obtain ⟨L,hL,_⟩:=h.eQ;exact ⟨L,hL⟩
theorem jm{p:Nat}(hp:p<6):(kq p).wf=true/\(kq p).Ok PR G gh:=by
 have h:=LC hp;unfold rI tD at h;rw [Bool.and_eq_true] at h;have kn:Know.Ok PR G gh ⟨[gI 0],[]⟩:=bB (by kernel_rfl) (aJ (qL hG (by decide)) dj)
 refine ⟨h.2,Con.jX mixed kn (k:=0) (i:=1) (el:=gK 0) (sl:=slT) (M:= .var 0) (cv:= .nil) (show 2<1000000 by decide) (iW (by decide)) rfl (fun ρ B W f w args' hr ha=> ?_) 300 aG no' 12 _ (fun ρ h1 h2 h3 hm dec a b hd hab=> ?_) h.1⟩
 ·obtain ⟨L,hL⟩:=BC ha (x:=1) rfl;exact eG hr (show 2<1000000 by decide) hL (show (kq p).os[0]? =some (Qv 1) from rfl) (x:=0) (o:=0) (aU [ab.ptr (some (1,0))] 0 0 .nil (.ptr (some (1,0))) rfl (by decide))
 ·exact w5 h2 hd (fun j z hj=>P0 hG h1 hm (iP (ρ:=ρ) (d:=[]) h3) hp j z hj) hab
theorem jn{p:Nat}(hp:p<6):(lI p).wf=true/\(lI p).Ok PR G gh:=by
 have h:=Nl hp;unfold se tD at h;rw [Bool.and_eq_true] at h;have kn:Know.Ok PR G gh ⟨[gI 1],[]⟩:=bB (by kernel_rfl) (aJ (qL hG (by decide)) dj)
 refine ⟨h.2,Con.jX mixed kn (k:=1) (i:=0) (el:=gK 1) (sl:=slT) (M:= .var 0) (cv:=mu 1) (show 1<1000000 by decide) (iW (by decide)) rfl (fun ρ B W f w args' hr ha=>BC ha (x:=1) rfl) 300 aG no' 12 _ (fun ρ h1 h2 h3 hm dec a b hd hab=> ?_) h.1⟩
 exact w5 h2 hd (fun j z hj=>P0 hG h1 hm (iP (ρ:=ρ) (d:=[]) h3) hp j z hj) hab
theorem jk{p:Nat}(hp:p<6):(lC p).wf=true/\(lC p).Ok PR G gh:=by
 have h:=LJ hp;unfold qI tD at h;rw [Bool.and_eq_true] at h;have kn:Know.Ok PR G gh ⟨[zI 1],[]⟩:=bB (by kernel_rfl) (aJ (Rs hG (by decide)) dj)
 refine ⟨h.2,Con.jX mixed kn (k:=1) (i:=0) (el:=gK 1) (sl:=slT) (M:= .var 0) (cv:=mu 1) (show 1<1000000 by decide) (iW (by decide)) rfl (fun ρ B W f w args' hr ha=>BC ha (x:=1) rfl) 300 aG no' 12 _ (fun ρ h1 h2 h3 hm dec a b hd hab=> ?_) h.1⟩
 exact w5 h2 hd (fun j z hj=>Yy hG h1 hm (iP (ρ:=ρ) (d:=[(iQ,false)]) h3) (CJ (d:=[]) h3) hp j z hj) hab
omit hG in
theorem lM{k:Nat}(hk:k<2):(ru k).Ok PR G gh:=by
 refine eV (c:=tM k) (q:=[(.lit 6,nE)]) rfl rfl rfl rfl (MB hk) rfl fun ρ h1 h2 h3=>⟨h2,aw,fun p hp=> ?_⟩
 rw [List.mem_singleton.1 hp];exact (iP (ρ:=ρ) (d:=[]) h3).symm
end
def BD(c:Con)(K:Know):Bool:=(c.tree PR K 20 aG no' 12 []).all (c.leaf (qX (bdL c.bds) 12 Yo)) c.pre&&(c.wf&&K.cons.all Con.wf)
theorem fc{l:List ab}{j:Nat}{v:ab}(h:l[j]? =some v)(hl:l.length<1000):(aX l 0).get j=some v:=by
 have:=aU l 0 j .nil v h (by omega)
 rwa [Nat.zero_add] at this
theorem g9{ρ:Env}{B:Nat->Prop}{W w:World}{f:Ren}{os:List ah}{j i o x:Nat}{ty:TypeId}{c:T ab}{e:TypeId}{ow:Bool}{t:Nat}{L:Go.Sx.Loc}(hr:au ρ B W f (aF os 0 .nil) w)(hlen:os.length<1000000)(hj:f j=some L)(ho:os[j]? =some (.cells c e ow t))(hc:c.get x=some (.iface ty (.ptr (some (i,o))))): ∃L',f i=some L':=by
 have:=aU os 0 j .nil _ ho (by omega)
 rw [Nat.zero_add] at this;obtain ⟨cs,fr,_,_,_,q⟩:=hr.obj j L _ hj this;obtain ⟨_,v',_,hv⟩:=q x _ hc;cases hv with
 |iface hv=>
  obtain ⟨L',h,_⟩:=hv.eQ;exact ⟨L',h⟩
section
variable{G:Nat->Int->Int->Int->Int}(hG:cX G)
include hG
theorem Kh{ρ:Env}(h1:ρ.std G gh)(hm:bn (ρ.i 0))(hn:mN (ρ.i 0)=6):fC ρ Yo:=by
 intro o ho _;unfold Yo at ho;obtain ⟨p,hp,rfl⟩:=List.mem_map.1 ho;have hp:p<6:=List.mem_range.1 hp;show (rgS p).ev ρ=IntKind.i64.wrap (fnI ρ 23 (ρ.i 0) ((p:Nat):Int) 0);rw [Dk hG h1 hm hn hp,cj hG h1 (by decide) (by decide)]
 have e6:(mN (ρ.i 0)).toNat=6:=by rw [hn]; rfl
 have hr:=hm.r p (by omega)
 show _=IntKind.i64.wrap (rtS (ρ.i 0) (p:Nat));unfold rtS;rw [if_pos ⟨by omega,by rw [hn]; omega⟩,show ((p:Nat):Int)*4+2=((4*p+2:Nat):Int) by omega]
 show _=IntKind.i64.wrap (IntKind.i64.wrap (mR (ρ.i 0) p));rw [bI .i64 (mR (ρ.i 0) p) (by simp only [kLo]; omega) (by simp only [kHi]; omega),bI .i64 (mR (ρ.i 0) p) (by simp only [kLo]; omega) (by simp only [kHi]; omega)]
end
section
variable{G:Nat->Int->Int->Int->Int}(hG:cX G)
include hG
end
section
variable{G:Nat->Int->Int->Int->Int}(hG:cX G)
include hG
end
end
end Go.Proofs.YtbhlmedfhilkbaaGreat

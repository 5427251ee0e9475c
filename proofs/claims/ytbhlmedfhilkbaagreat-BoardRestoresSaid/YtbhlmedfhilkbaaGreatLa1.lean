/- Part La1. No condition. -/
import Derived.Test.YtbhlmedfhilkbaaGreatRm2
import Derived.Test.YtbhlmedfhilkbaaGreatLq2
set_option linter.all false
namespace Go.Proofs.YtbhlmedfhilkbaaGreat
open Go Go.Sx
set_option maxRecDepth 1000000
noncomputable section
def FLK:Fns:=⟨130,131,[10,11,20,21,22,23]⟩
def FLQ:Fns:=⟨132,133,[10,11,20,21,22,23]⟩
def uL(n:Int):ab:= .int .u32 (.lit n)
def stF(F:Fns):List ab:=[uL 256,uL 0,uL 800,uL 900,.int .u32 (dg F .u32 9),.int .u32 (dg F .u32 11),.int .u32 (dg F .u32 14),.int .u32 (dg F .u32 20),uL 1200,uL 0,uL 0,uL 0,uL 0,uL 0,uL 0,uL 0,uL 0,uL 0,
 .int .u32 (dg F .u32 25),uL 0,uL 0,uL 0,.int .i64 (.rem (dg F .u8 27) (.lit 100)),.int .i64 (.rem (dg F .u8 29) (.lit 125))]
def inO:ah:= .arr [.u32] (.var 24) (.var 27) false
def XV:BE×Bool:=(.lt (.var 27) (.var 25),false)
def inV:ab:= .sliceS 1 (.lit 0) (.var 25) 1 false
def inN:ah:= .arr [.u32] (.var 24) (.var 25) true
def fx(l:List ab)(i o:ab)(stop:ab):ah:= .cells (aX (l++[i,o,stop]) 0) 55 true 5
def Q9(l:List ab)(j:Nat):ah:= .cells (aX (l++[.ptr (some (j,0))]) 0) 138 true 25
def pj(l:List ab)(j:Nat):ah:= .cells (aX (l++[.ptr (some (j,0))]) 0) 68 true 25
def laidB:List (Nat×Int×Int):=[yw 11,eY 20,eY 21,eY 22,eY 23,(25,0,8),yw 27]
def gF:Con:={g:=14,args:=[.int .i64 (.lit 1),ph,.agg (xr [20,21,22,23]),inV],os:=[fu,inO],bds:=laidB,pre:=[XV],res:= .ptr (some (2,0)),os':=[fu,inO,fx [.ptr (some (3,0)),.ptr none] (.sliceA 5 (.var 25) 1) (.slice none 0 0 0) (.bool (.lit false)),Q9 (stF FLK) 4,.ghost 2 [kvE FLK 30] .nil,inN]}
def GG:Know:=⟨[DC true,Cm,oW,oS,yj],[]⟩
def tA:Out:=gF.tree PR GG 40 aG no' 12 []
theorem tG:(tA.all (gF.ao FLK) gF.pre&&((gF.rows FLK tA).only (bR FLK.vars) 130&&gF.wf))=true:=by kernel_rfl
def gn:Con:={g:=14,args:=[.int .i64 (.lit 2),ph,.agg (xr [20,21,22,23]),inV],os:=[fu,inO],bds:=laidB,pre:=[XV],res:= .ptr (some (2,0)),os':=[fu,inO,fx [.ptr none,.ptr (some (3,0))] (.sliceA 5 (.var 25) 1) (.slice none 0 0 0) (.bool (.lit false)),pj (stF FLQ) 4,.ghost 2 [kvE FLQ 30] .nil,inN]}
def Jl:Know:=⟨[DC false,BR,oW,oS,yj],[]⟩
def ti:Out:=gn.tree PR Jl 40 aG no' 12 []
theorem tS:(ti.all (gn.ao FLQ) gn.pre&&((gn.rows FLQ ti).only (bR FLQ.vars) 132&&gn.wf))=true:=by kernel_rfl
theorem J0:(GG.cons.all Con.wf&&Jl.cons.all Con.wf)=true:=by kernel_rfl
def rM2:RT:=bK.rows FM2 (cg gm dm BU)
def rE2:RT:=bg.rows FE2 (cg (.var 0) cH Kq)
def rCK:RT:=DD.rows FCK tCk
def rM3:RT:=dI.rows FM3 (cg lF gk CO)
def rT3:RT:=mQ.rows FT3 BS
def rE3:RT:=dw.rows FE3 (cg (.var 0) fZ JL)
def rCQ:RT:=Fq.rows FCQ tCq
def rEQ:RT:=Eo.rows FEQ tEq
def rLK:RT:=gF.rows FLK tA
def rLQ:RT:=gn.rows FLQ ti
structure Made (G:Nat->Int->Int->Int->Int):Prop where
 base:cX G
 m2:FM2.Def G rM2
 e2:FE2.Def G rE2
 ck:FCK.Def G rCK
 m3:FM3.Def G rM3
 t3:FT3.Def G rT3
 e3:FE3.Def G rE3
 cq:FCQ.Def G rCQ
 eq:FEQ.Def G rEQ
 lk:FLK.Def G rLK
 lq:FLQ.Def G rLQ
theorem cN{a b:Bool}(h:(a&&b)=true):a=true/\b=true:=by simpa using h
theorem o1:rM2.only (bR FM2.vars) 112=true:=hZ (show IE.only (bR FM2.vars) 112 gm=true by decide) (cN wy).2
theorem o2:rE2.only (bR FE2.vars) 116=true:=hZ (show IE.only (bR FE2.vars) 116 (.var 0)=true by decide) (cN zK).2
theorem o3:rCK.only (bR FCK.vars) 118=true:=(cN (cN Hi).2).1
theorem o4:rM3.only (bR FM3.vars) 120=true:=hZ (show IE.only (bR FM3.vars) 120 lF=true by decide) (cN xT).2
theorem o5:rT3.only (bR FT3.vars) 122=true:=(cN wP).2
theorem o6:rE3.only (bR FE3.vars) 124=true:=hZ (show IE.only (bR FE3.vars) 124 (.var 0)=true by decide) (cN AF).2
theorem o7:rCQ.only (bR FCQ.vars) 126=true:=(cN (cN I9).2).1
theorem o8:rEQ.only (bR FEQ.vars) 128=true:=(cN (cN HL).2).1
theorem o9:rLK.only (bR FLK.vars) 130=true:=(cN (cN tG).2).1
theorem o10:rLQ.only (bR FLQ.vars) 132=true:=(cN (cN tS).2).1
attribute [irreducible] rM2 rE2 rCK rM3 rT3 rE3 rCQ rEQ rLK rLQ
section
variable{G:Nat->Int->Int->Int->Int}(hM:Made G)
theorem rem_in{x m:Int}(n:Nat)(h0:0<=x)(hm:m=n)(hp:0<n):x.tmod m∈(List.range n).map Int.ofNat:=by
 subst hm;exact wT (by rw [Int.tmod_eq_emod_of_nonneg h0]; exact Int.emod_nonneg _ (by omega)) (Int.tmod_lt_of_pos _ (by omega))
theorem Y3:BU=(List.range 79).map Int.ofNat:=by rfl
theorem aas:Kq=(List.range 131).map Int.ofNat:=by rfl
theorem Y8:CO=(List.range 39).map Int.ofNat:=by rfl
theorem YL:JL=(List.range 64).map Int.ofNat:=by rfl
include hM
theorem Nt:bK.Ok PR G gh:=by
 refine nM (fun _ _=>bc) (by decide) dm rfl (fun ρ h1 h2 h3=> ?_) (cN wy).1 (by have h:=hM.m2; unfold rM2 at h; exact h)
 rw [Y3];refine rem_in 79 ?_ rfl (by decide)
 exact (bD (ρ:=ρ) (bd:=fun _=>none) (fun i lo hi h=>by cases h) (.bits .and .i64 (.var 0) (.lit 65535)) 0 65535 (by decide)).1
theorem RW:bg.Ok PR G gh:=by
 refine nM (fun _ _=>bc) (by decide) cH rfl (fun ρ h1 h2 h3=> ?_) (cN zK).1 (by have h:=hM.e2; unfold rE2 at h; exact h)
 rw [aas];obtain ⟨a,b⟩:=h2 0 0 130 (by rfl)
 exact wT a (by show ρ.i 0<(131:Int); omega)
theorem MV:dI.Ok PR G gh:=by
 refine nM (fun _ _=>bc) (by decide) gk rfl (fun ρ h1 h2 h3=> ?_) (cN xT).1 (by have h:=hM.m3; unfold rM3 at h; exact h)
 rw [Y8];refine rem_in 39 ?_ rfl (by decide)
 show 0<=(ρ.i 0).tmod 39+39;have:=Int.lt_tmod_of_pos (ρ.i 0) (show (0:Int)<39 by decide)
 omega
theorem LX:mQ.Ok PR G gh:=by
 have hd:=hM.t3;unfold rT3 at hd;have h:=wP;generalize ht:BS=t at h hd;have ht':mQ.tree PR ⟨[],[]⟩ 40 aG no' 12 []=t:=ht;exact Rl bc (by decide) t ht' (cN h).1 hd
theorem Oz:dw.Ok PR G gh:=by
 refine nM (fun _ _=>bc) (by decide) fZ rfl (fun ρ h1 h2 h3=> ?_) (cN AF).1 (by have h:=hM.e3; unfold rE3 at h; exact h)
 rw [YL];obtain ⟨a,b⟩:=h2 0 0 63 (by rfl)
 exact wT a (by show ρ.i 0<(64:Int); omega)
omit hM in
theorem NK:IX.Ok PR G gh:=bA bc (cN JU).1
omit hM in
theorem NV:H6.Ok PR G gh:=bA bc (cN JU).2
end
theorem Yn:kCk.cons.all Con.wf=true:=by kernel_rfl
theorem Ya:kCq.cons.all Con.wf=true:=by kernel_rfl
theorem Xq:kEq.cons.all Con.wf=true:=by kernel_rfl
section
variable{G:Nat->Int->Int->Int->Int}(hM:Made G)
include hM
theorem NI:DD.Leaves G gh tCk:=by
 have h:=Hi;have hd:=hM.ck;unfold rCK at hd;generalize tCk=t at h hd ⊢;exact Con.jq (c:=DD) [] (fun _ _ _ _=>aw) (F:=FCK) (by decide) (o:=t) (cN h).1 hd
theorem Nb:Fq.Leaves G gh tCq:=by
 have h:=I9;have hd:=hM.cq;unfold rCQ at hd;generalize tCq=t at h hd ⊢;exact Con.jq (c:=Fq) [] (fun _ _ _ _=>aw) (F:=FCQ) (by decide) (o:=t) (cN h).1 hd
theorem Nn:Eo.Leaves G gh tEq:=by
 have h:=HL;have hd:=hM.eq;unfold rEQ at hd;generalize tEq=t at h hd ⊢;exact Con.jq (c:=Eo) [] (fun _ _ _ _=>aw) (F:=FEQ) (by decide) (o:=t) (cN h).1 hd
theorem QZ:lCk.con.wf=true/\lCk.Ok PR G gh:=by
 have h:=NI hM;unfold tCk at h;have w:lCk.con.wf=true:=(cN (cN Hi).2).2;exact ⟨w,ba.f6 (c:=lCk) mixed (K:=kCk) (bB Yn (aJ (Nt hM) (aJ (RW hM) dj))) w rfl (L:=40) (pol:=aG) (pure:=no') (d:=12) (μ:=μCk) (facts:=[]) (fun _ _ _ _=>aw) h⟩
theorem RD:lCq.con.wf=true/\lCq.Ok PR G gh:=by
 have h:=Nb hM;unfold tCq at h;have w:lCq.con.wf=true:=(cN (cN I9).2).2;exact ⟨w,ba.f6 (c:=lCq) mixed (K:=kCq) (bB Ya (aJ (MV hM) (aJ (LX hM) dj))) w rfl (L:=40) (pol:=aG) (pure:=no') (d:=12) (μ:=μCq) (facts:=[]) (fun _ _ _ _=>aw) h⟩
theorem Ro:lEq.con.wf=true/\lEq.Ok PR G gh:=by
 have h:=Nn hM;unfold tEq at h;have w:lEq.con.wf=true:=(cN (cN HL).2).2;exact ⟨w,ba.f6 (c:=lEq) mixed (K:=kEq) (bB Xq (aJ (Oz hM) (aJ NK (aJ NV dj)))) w rfl (L:=40) (pol:=aG) (pure:=no') (d:=12) (μ:=μEq) (facts:=[]) (fun _ _ _ _=>aw) h⟩
theorem Nv:Cm.Ok PR G gh:=bA (ia rfl dj (lpC (QZ hM).1 (QZ hM).2 lpN)) (cN Mb).1
theorem Mh:BR.Ok PR G gh:=bA (ia rfl dj (lpC (RD hM).1 (RD hM).2 (lpC (Ro hM).1 (Ro hM).2 lpN))) (cN NA).1
theorem LW:gF.wf=true/\gF.Ok PR G gh:=by
 have hd:=hM.lk;unfold rLK at hd;have h:=tG;generalize ht:tA=t at h hd;have ht':gF.tree PR GG 40 aG no' 12 []=t:=ht;exact ⟨(cN (cN h).2).2,Rl (bB (cN J0).1 (aJ (Et hM.base true) (aJ (Nv hM) (aJ (Fb hM.base).2 (aJ (yf hM.base) (aJ (EJ hM.base).2 dj)))))) (by decide) t ht' (cN h).1 hd⟩
theorem Mu:gn.wf=true/\gn.Ok PR G gh:=by
 have hd:=hM.lq;unfold rLQ at hd;have h:=tS;generalize ht:ti=t at h hd;have ht':gn.tree PR Jl 40 aG no' 12 []=t:=ht;exact ⟨(cN (cN h).2).2,Rl (bB (cN J0).2 (aJ (Et hM.base false) (aJ (Mh hM) (aJ (Fb hM.base).2 (aJ (yf hM.base) (aJ (EJ hM.base).2 dj)))))) (by decide) t ht' (cN h).1 hd⟩
end
def kW(M M':Int):Prop:=mN M'=mN M/\aP M'=aP M
theorem kW.refl(M:Int):kW M M:=⟨rfl,rfl⟩
theorem kW.trans{A B C:Int}(h:kW A B)(h':kW B C):kW A C:=⟨h'.1.trans h.1,h'.2.trans h.2⟩
theorem N6(M p r:Int):kW M (prS M p r):=by
 unfold prS;split
 ·rename_i h;have e:p*4+2=((4*p.toNat+2:Nat):Int):=by omega
  rw [e];exact iy (by omega) (by omega)
 ·exact .refl M
theorem MD(M b:Int){a:Int}(h0:0<=a):kW M (stS M a b):=by
 unfold stS;split
 ·have e:a*4=((4*a.toNat:Nat):Int):=by omega
  rw [e];exact iy (by omega) (by omega)
 ·exact .refl M
theorem z4(a d:Int): ∀(k i:Nat) (M:Int),kW M (poF M a d i k)
 |0,_,M=> .refl M
 |k+1,i,M=>(MD M _ (D1 _ _).1).trans (z4 a d k (i+1) _)
theorem xK{M:Int}{ix:Nat->Nat}{g:Nat->Int}(h: ∀j,ix j≠3/\ix j≠7): ∀n,kW M (fP M ix g n)
 |0=> .refl M
 |n+1=>(xK h n).trans (iy (h n).1 (h n).2)
theorem Mr(M a:Int):kW M (syS M a):=by
 unfold syS;split
 ·exact xK (fun j=>by unfold ixC; omega) _
 ·exact .refl M
def Gp(coh:Bool):Nat->IE->Bool
 |k+1,.fn c m y _=>
  match Nat.beq c 31||(Nat.beq c 33||Nat.beq c 38) with
  |true=>Gp coh k m
  |false=>
   match m,y with
   | .lit a,.lit b=>Nat.beq c 37&&(decide (a=6)&&decide (b=b2 coh))
   |_,_=>false
 |_,_=>false
theorem Q4{G:Nat->Int->Int->Int->Int}(hG:cX G){ρ:Env}(h1:ρ.std G gh){coh:Bool}: ∀(k:Nat) (e:IE),Gp coh k e=true->mN (e.ev ρ)=6/\aP (e.ev ρ)=coh:=by
 intro k
 induction k with
 |zero=>intro e h; unfold Gp at h; cases h
 |succ k ih=>
  intro e h;unfold Gp at h;split at h
  ·rename_i k0 c m y z hk;cases hk;split at h
   ·rename_i hc;obtain ⟨a,b⟩:=ih m h
    have key:kW (m.ev ρ) ((IE.fn c m y z).ev ρ):=by
     show kW (m.ev ρ) (fnI ρ c (m.ev ρ) (y.ev ρ) (z.ev ρ));simp only [Bool.or_eq_true,Nat.beq_eq] at hc
     rcases hc with rfl |rfl |rfl
     ·rw [cj hG h1 (by decide) (by decide)]; exact N6 _ _ _
     ·rw [cj hG h1 (by decide) (by decide)]; exact Mr _ _
     ·rw [cj hG h1 (by decide) (by decide)]; exact z4 _ _ _ _ _
    exact ⟨key.1.trans a,key.2.trans b⟩
   ·split at h
    ·rename_i a b;obtain ⟨q1,h⟩:=cN h;obtain ⟨q2,q3⟩:=cN h;have q1:=Nat.eq_of_beq_eq_true q1;have q2:=of_decide_eq_true q2;have q3:=of_decide_eq_true q3;subst q1 q2 q3
     have e:(IE.fn 37 (.lit 6) (.lit (b2 coh)) z).ev ρ=jT 6 (b2 coh):=by
      show fnI ρ 37 6 (b2 coh) _=_;rw [cj hG h1 (by decide) (by decide)]
      rfl
     rw [e];have hb:b2 coh=0\/b2 coh=1:=by cases coh<;>decide
     refine ⟨sT ⟨by decide,by decide⟩ hb,?_⟩
     rw [Ct ⟨by decide,by decide⟩ hb]
     cases coh<;>rfl
    ·cases h
  ·cases h
def si(c:Con)(F:Fns)(coh:Bool)(_:Dec)(_:aM)(s:ASt):Bool:=
 match c.ef s with
 |some q=>match q[30]? with
  |some p=>p.1.eq (kvE F 30)&&Gp coh 40 p.2
  |none=>false
 |none=>false
theorem J3{G:Nat->Int->Int->Int->Int}(hG:cX G){c:Con}{F:Fns}{o:Out}{coh:Bool}(hk:7<F.KR/\7<F.KV)(hd:o.all (c.ao F) c.pre=true)(hf:o.all (si c F coh) c.pre=true)
 (hF:F.Def G (c.rows F o)) {ρ:Env} (h1:ρ.std G gh) (h2:ρ.ok (bdL c.bds)) (h0:c.pre.holds ρ):mN ((kvE F 30).ev ρ)=6/\aP ((kvE F 30).ev ρ)=coh:=by
 obtain ⟨e,s,dec',hd',a1,a2⟩:=Out.bP (ρ:=ρ) (o:=o) (dec:=c.pre) h0 (p:=fun dec e s=>c.ao F dec e s) hd
 obtain ⟨e2,s2,dec2,hd2,b1,b2⟩:=Out.bP (ρ:=ρ) (o:=o) (dec:=c.pre) h0 (p:=si c F coh) hf;rw [a1] at b1;cases b1;have hF':F.Def ρ.g (c.rows F o):=by rw [h1.1]; exact hF
 obtain ⟨q,c1,c2⟩:=Con.kr (c:=c) (F:=F) (ρ:=ρ) (o:=o) (dec':=dec') hk h2 hF' a1 a2;unfold si at b2;rw [c1] at b2;dsimp only at b2;split at b2
 ·rename_i p hp;obtain ⟨q1,q2⟩:=cN b2;have q1:=IE.eq_eq q1
  have e:(kvE F 30).ev ρ=p.2.ev ρ:=by
   rw [<- q1];exact c2 p (List.mem_of_getElem? hp)
  rw [e];exact Q4 hG h1 40 _ q2
 ·cases b2
theorem Gc:(tA.all (si gF FLK true) gF.pre&&ti.all (si gn FLQ false) gn.pre)=true:=by kernel_rfl
section
variable{G:Nat->Int->Int->Int->Int}(hM:Made G)
include hM
theorem Jk{ρ:Env}(h1:ρ.std G gh)(h2:ρ.ok (bdL gF.bds))(h0:gF.pre.holds ρ):mN ((kvE FLK 30).ev ρ)=6/\aP ((kvE FLK 30).ev ρ)=true:=by
 have hd:=hM.lk;unfold rLK at hd;have h:=(cN tG).1;have h':=(cN Gc).1;generalize tA=t at h h' hd;exact J3 hM.base (by decide) h h' hd h1 h2 h0
theorem Ha{ρ:Env}(h1:ρ.std G gh)(h2:ρ.ok (bdL gn.bds))(h0:gn.pre.holds ρ):mN ((kvE FLQ 30).ev ρ)=6/\aP ((kvE FLQ 30).ev ρ)=false:=by
 have hd:=hM.lq;unfold rLQ at hd;have h:=(cN tS).1;have h':=(cN Gc).2;generalize ti=t at h h' hd;exact J3 hM.base (by decide) h h' hd h1 h2 h0
end
def Im:Con:={g:=68,args:=[.sliceA 0 (.var 25) 1,.sliceA 1 (.var 25) 1,.int .i64 (.var 26)],os:=[inN,inN],bds:=[(25,0,60000000),(26,0,60000000)],pre:=[(.lt (.var 25) (.var 26),false)],res:= .tuple [],os':=[inN,inN]}
def lWo:ba:={con:=Im,key:=5,n:=26,sl:=[0,1,5],e:= .exit 0,sl':=[]}
def μWo:IE:= .sub (.var 25) (.var 26)
def tWo:Out:=lWo.tree PR ⟨[],[]⟩ 40 aG no' 12 [] μWo
def tJ:Con:={g:=68,args:=[.sliceA 0 (.var 25) 1,.sliceA 1 (.var 25) 1],os:=[inN,inN],bds:=[(25,0,60000000)],res:= .bool (.lit true),os':=[inN,inN]}
theorem RC:(tWo.all (Im.leaf (qP (bdL Im.bds) 12)) Im.pre&&(Im.wf&&(fq tJ ⟨[],[lWo]⟩ 40 12 12&&tJ.wf)))=true:=by kernel_rfl
theorem Ob{G:Nat->Int->Int->Int->Int}:lWo.con.wf=true/\lWo.Ok PR G gh:=by
 have h:=cN RC;have w:lWo.con.wf=true:=(cN h.2).1;have hL:Im.Leaves G gh tWo:=Con.vG (c:=Im) [] (fun _ _ _ _=>aw) _ (fun ρ h1 h2 h3 dec a b hd hab=>uR h2 hd hab) h.1
 unfold tWo at hL;exact ⟨w,ba.f6 (c:=lWo) mixed (K:=⟨[],[]⟩) bc w rfl (L:=40) (pol:=aG) (pure:=no') (d:=12) (μ:=μWo) (facts:=[]) (fun _ _ _ _=>aw) hL⟩
theorem zC{G:Nat->Int->Int->Int->Int}:tJ.wf=true/\tJ.Ok PR G gh:=by
 have h:=cN (cN (cN RC).2).2;exact ⟨h.2,bA (ia rfl dj (lpC (Ob (G:=G)).1 Ob.2 lpN)) h.1⟩
end
end Go.Proofs.YtbhlmedfhilkbaaGreat

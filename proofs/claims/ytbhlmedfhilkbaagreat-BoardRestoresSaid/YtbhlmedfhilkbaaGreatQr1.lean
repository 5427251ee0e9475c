/- Part Qr1. No condition. -/
import Derived.Test.YtbhlmedfhilkbaaGreatRm2
import Derived.Test.YtbhlmedfhilkbaaGreatQd5
set_option linter.all false
namespace Go.Proofs.YtbhlmedfhilkbaaGreat
open Go Go.Sx
set_option maxRecDepth 1000000
noncomputable section
def Gn(c:Con)(n:Nat)(s:ASt):Option Prs:=match c.ef s with
 |some q=>some (q.take n)
 |none=>none
theorem NG{ρ:Env}{q:Prs}(h:q.hold ρ)(n:Nat):Prs.hold ρ (q.take n):=fun p hp=>h p (List.mem_of_mem_take hp)
theorem xU{ρ:Env}{c:Con}{n:Nat}{s:ASt}{m q:Prs}(h:c.ef s=some q)(hq:q.hold ρ)(hm:Gn c n s=some m):m.hold ρ:=by
 unfold Gn at hm;rw [h] at hm;cases hm;exact NG hq n
def ad9:List ab:=[.int .i64 (dgB FF 64 0),.int .i64 (dgB FF 16 1),.int .i64 (dgB FF 16 2),.int .i64 (dgB FF 16 3),.int .u32 (dg FF .u32 4),.int .i64 (dg FF .u8 5),.int .u32 (dg FF .u32 6)]
def VY:List ab:=[.int .i64 (dgB FF 64 0),.int .i64 (dgB FF 16 1),.int .i64 (dgB FF 16 2),.int .i64 (dgB FF 16 3),.int .u32 S5,.int .i64 (dg FF .u8 5),.int .u32 (dg FF .u32 6)]
def NR:Con:={g:=106,args:=[.int .u32 (.var 1),pm],bds:=[bC 1],os:=[dZ 2 (.var 0)],res:= .agg ad9,os':=[dZ 2 (.var 0)]}
def QJ:Con:={NR with res:= .agg VY}
def kFr:Know:=⟨[iX,Fx 121],[]⟩
def Zm:FuncId->Nat->Bool:=fun g k=>Nat.beq k 1000000&&Nat.beq g 106
def adt:Out:=NR.tree PR kFr 40 Zm no' 12 []
theorem Rp:adt.all (NR.cQ (Gn cFq 8) tFq) []=true:=by kernel_rfl
theorem XY:kFr.cons.all Con.wf=true:=by kernel_rfl
section
variable{G:Nat->Int->Int->Int->Int}(hB:cX G)(hD:FD.Def G kT)(hF:FF.Def G pa)
include hB hD
theorem Xj:kFr.Ok PR G gh:=by
 have h: ∀c∈[iX,Fx 121],c.Ok PR G gh:=fun c hc=>by
  rcases List.mem_cons.1 hc with rfl |hc
  ·exact oq hB
  ·rcases List.mem_cons.1 hc with rfl |hc
   ·exact RR hD
   ·cases hc
 exact ⟨ku XY h,fun _ h=>by cases h⟩
include hF
theorem Ua:NR.Ok PR G gh:=by
 refine Con.f6 (c:=NR) (K:=kFr) mixed (Xj hB hD) (L:=40) (pol:=Zm) (pure:=no') (d:=12) (facts:=[]) (fun _ _ _ _=>dq) (Con.Gr [] (fun _ _ _ _=>dq) (o:=tFq) (ends:=Gn cFq 8) (fun ρ h1 h2 _ e s m hp hm=> ?_) Rp)
 obtain ⟨e',s',q,q1,q2,q3⟩:=Con.uc vL (by decide) (c:=cFq) h2 dq (by rw [h1.1]; exact hF)
 rw [hp] at q1;cases q1;exact xU q2 q3 hm
theorem QK:QJ.Ok PR G gh:=by
 refine Con.q9 (c:=NR) (r:= .agg VY) (q:=[(dgB FF 64 0,dgB FF 64 0),(dgB FF 16 1,dgB FF 16 1),(dgB FF 16 2,dgB FF 16 2),(dgB FF 16 3,dgB FF 16 3),(S5,dg FF .u32 4),(dg FF .u8 5,dg FF .u8 5),(dg FF .u32 6,dg FF .u32 6)]) (Ua hB hD hF) rfl fun ρ h1 h2 h3 p hp=> ?_
 simp only [List.mem_cons,List.not_mem_nil,or_false] at hp
 rcases hp with rfl |rfl |rfl |rfl |rfl |rfl |rfl
 ·rfl
 ·rfl
 ·rfl
 ·rfl
 ·show aA false ((dgB FF 64 0).ev ρ) 53 (((dg FF .u32 4).ev ρ).tmod 4) ((dg FF .u32 4).ev ρ)=_;unfold aA
  by_cases he:(dgB FF 64 0).ev ρ=53
  ·have hle:=E1 hF h1 h2 he;have hge:0<=(dg FF .u32 4).ev ρ:=(wrap_mem .u32 _).1;simp only [he,Bool.false_eq_true,if_false,if_true];rw [Int.tmod_eq_emod_of_nonneg hge];omega
  ·simp [he]
 ·rfl
 ·rfl
end
def UG:Con:={g:=122,args:=[uV .u32 1],bds:=[bC 1],res:= .int .i64 (.wrap .i32 (.var 1))}
def ZN:IE:= .sel true (.var 1) (.lit 2147483648) (.var 1) (.sub (.var 1) (.lit 4294967296))
def Wa:Con:={UG with res:= .int .i64 ZN}
theorem TT:fq Wa ⟨[],[]⟩ 10 4 12=true:=by kernel_rfl
theorem TG{G:Nat->Int->Int->Int->Int}{GH:Nat->bz}:UG.Ok PR G GH:=by
 refine Con.q9 (c:=Wa) (r:= .int .i64 (.wrap .i32 (.var 1))) (q:=[(.wrap .i32 (.var 1),ZN)]) (bA bc TT) rfl fun ρ h1 h2 h3 p hp=> ?_
 simp only [List.mem_cons,List.not_mem_nil,or_false] at hp;subst hp;obtain ⟨q1,q2⟩:=h2 1 0 4294967295 rfl;show IntKind.i32.wrap (ρ.i 1)=aA true (ρ.i 1) 2147483648 (ρ.i 1) (ρ.i 1-4294967296);rw [dM,ET];show (if 2147483648<=ρ.i 1 % 4294967296 then ρ.i 1 % 4294967296-4294967296 else ρ.i 1 % 4294967296)=_
 rw [Int.emod_eq_of_lt q1 (by omega)]
 by_cases h:ρ.i 1<2147483648
 ·rw [if_pos h,if_neg (by omega)]
 ·rw [if_neg h,if_pos (by omega)]
def zj(n:Int):Bool:=opsV.any fun m=>aK m n
where opsV:List Int:=[1,2,3,4,5,6,7,8,9,10,11,12,16,17,18,19,20,21,22,23,24,25,26,27,32,33,34,35,36,37,40,41,48,49,50,51,52,53,54]
def Bt(n:Int)(dec:Dec)(_:aM)(s:ASt):Bool:=
 match gB.ef s with
 |some (p0::_::_::_::_::p5::_)=>
  p0.1.eq (dgB FD 64 0)&&(p5.1.eq (dg FD .u8 5)&&(match zj n with
   |true=>(match prove (bdL [bC 1]) 12 ((.eq opR (.lit n),true)::dec) (.eq (.sel false p5.2 (.lit 0) p0.2 (.lit n)) (.lit n)) with |some v=>v |none=>false)
   |false=>(match prove (bdL [bC 1]) 12 dec (.eq p5.2 (.lit 0)) with |some v=> !v |none=>false)))
 |_=>false
theorem acx:aj opE jR Bt [] BK=true:=by kernel_rfl
theorem acv:aj opE jR Bt [] x8=true:=by kernel_rfl
theorem adr:aj opE jR Bt [] dD=true:=by rw [fp]; exact aQ acx acv
theorem Q2{n:Int}(h:zj n=true):n∈zj.opsV:=by
 unfold zj at h;obtain ⟨m,hm,e⟩:=List.any_eq_true.1 h;rw [<- ar e];exact hm
theorem Uu{G:Nat->Int->Int->Int->Int}(hG:FD.Def G kT){ρ:Env}(h1:ρ.std G gh)(h2:ρ.ok (bdL gB.bds))(h0:sE.ev ρ=0):(dgB FD 64 0).ev ρ∈zj.opsV:=by
 obtain ⟨x,s,q,a,b,c⟩:=Bq hG h1 h2;obtain ⟨x2,s2,dec',hd',a1,a2⟩:=bW (ρ:=ρ) (e:=opE) (f:=jR) adr (s9 h2) dq;rw [a] at a1;cases a1;unfold Bt at a2;rw [b] at a2;split at a2
 ·rename_i p0 q1 q2 q3 q4 p5 l hq;cases hq;obtain ⟨k0,a2⟩:=aa a2;obtain ⟨k5,a2⟩:=aa a2;have c0:=c p0 (by simp)
  have c5:=c p5 (by simp)
  rw [IE.eq_eq k0] at c0;rw [IE.eq_eq k5,show (dg FD .u8 5).ev ρ=0 from h0] at c5
  split at a2
  ·rename_i hop;split at a2
   ·rename_i v hv;subst a2;have he:(BE.eq opR (.lit (opE.ev ρ))).ev ρ=true:=decide_eq_true (Dz h2);have:=cU h2 12 _ _ _ (aR hd' he) hv;have h:aA false (p5.2.ev ρ) 0 (p0.2.ev ρ) (opE.ev ρ)=opE.ev ρ:=of_decide_eq_true this;rw [<- c5,jN,if_pos rfl] at h;rw [c0,h];exact Q2 hop
   ·cases a2
  ·split at a2
   ·rename_i v hv;have:=cU h2 12 _ _ _ hd' hv;have hv':v=false:=by simpa using a2
    subst hv';exact absurd c5.symm (of_decide_eq_false this)
   ·cases a2
 ·cases a2
def M3(W:IE):Nat->IE:=fun i=>match i with
 |1=>W
 |i=> .var i
def XQ:IE->Option IE
 | .rem (.wrap _ (.fn _ (.fn _ (.fn _ W _ _) _ _) _ _)) _=>some W
 |_=>none
def Dj(dec:Dec)(_:aM)(s:ASt):Bool:=
 match cFq.ef s with
 |some (p0::_::_::_::_::p5::_)=>p0.1.eq (dgB FF 64 0)&&(p5.1.eq (dg FF .u8 5)&&(match prove (bdL [bC 1]) 12 dec (.eq p5.2 (.lit 0)) with
  |some v=>(match v with
   |false=>true
   |true=>(match p0.2 with
    | .sel b e0 z X _=> !b&&(z.eq (.lit 0)&&(match XQ X with
      |some W=>e0.eq (sE.rep (M3 W))&&(X.eq ((dgB FD 64 0).rep (M3 W))&&(fits .u32 (rng (bdL [bC 1]) W)&&(match prove (bdL [bC 1]) 12 dec (.eq e0 (.lit 0)) with |some v=>v |none=>false)))
      |none=>false))
    |_=>false))
  |none=>false))
 |_=>false
theorem Ub:tFq.all Dj []=true:=by kernel_rfl
theorem S2{G:Nat->Int->Int->Int->Int}(hG:FD.Def G kT)(hF:FF.Def G pa){ρ:Env}(h1:ρ.std G gh)(h2:ρ.ok (bdL cFq.bds))(h0:(dg FF .u8 5).ev ρ=0):(dgB FF 64 0).ev ρ∈zj.opsV:=by
 obtain ⟨e,s,dec',hd',a1,a2⟩:=Out.bP (ρ:=ρ) (o:=tFq) (dec:=[]) dq (p:=fun dec e s=>cFq.ao FF dec e s) vL
 obtain ⟨e2,s2,dec2,hd2,b1,b2⟩:=Out.bP (ρ:=ρ) (o:=tFq) (dec:=[]) dq (p:=Dj) Ub;rw [a1] at b1;cases b1;obtain ⟨q,c1,c2⟩:=Con.kr (c:=cFq) (F:=FF) (ρ:=ρ) (o:=tFq) (dec':=dec') (by decide) h2 (by rw [h1.1]; exact hF) a1 a2
 unfold Dj at b2;rw [c1] at b2;split at b2
 ·rename_i p0 q1 q2 q3 q4 p5 l hq;cases hq;obtain ⟨k0,b2⟩:=aa b2;obtain ⟨k5,b2⟩:=aa b2;have c0:=c2 p0 (by simp)
  have c5:=c2 p5 (by simp)
  rw [IE.eq_eq k0] at c0;rw [IE.eq_eq k5,h0] at c5;split at b2
  ·rename_i v hv;have hv:=cU h2 12 _ _ _ hd2 hv;split at b2
   ·exact absurd c5.symm (of_decide_eq_false hv)
   ·split at b2
    ·rename_i b e0 z X y hp;obtain ⟨kb,b2⟩:=aa b2;obtain ⟨kz,b2⟩:=aa b2;split at b2
     ·rename_i W hW;obtain ⟨ke,b2⟩:=aa b2;obtain ⟨kX,b2⟩:=aa b2;obtain ⟨kf,b2⟩:=aa b2;split at b2
      ·rename_i v2 hv2;subst b2;have he0:e0.ev ρ=0:=of_decide_eq_true (cU h2 12 _ _ _ hd2 hv2);have hb:b=false:=by simpa using kb
       subst hb;have hz:z.ev ρ=0:=by rw [IE.eq_eq kz]; rfl
       have hp0:p0.2.ev ρ=X.ev ρ:=by
        rw [hp];show aA false (e0.ev ρ) (z.ev ρ) (X.ev ρ) (y.ev ρ)=_;rw [he0,hz,jN,if_pos rfl]
       rw [c0,hp0,IE.eq_eq kX,IE.a9];have hW:=ep h2 kf;refine Uu hG (ρ:=ρ.rep (M3 W)) h1 (fun i lo hi hx=> ?_) ?_
       ·match i with
        |0=>cases hx
        |1=>cases hx; exact hW
        |i+2=>cases hx
       ·rw [<- IE.a9,<-IE.eq_eq ke];exact he0
      ·cases b2
     ·cases b2
    ·cases b2
  ·cases b2
 ·cases b2
def adk(F:Fns):List ab:=dgL F aW 0++[.int .i64 (dg F .u8 24),.int .u32 (dg F .u32 25)]
def th:Con:={g:=84,args:=[stA,pm],os:=[dZ 2 (.var 0)],res:= .agg (adk FS),os':=[.ghost 2 [Z0] (mu 2)]}
def kQr:Know:=⟨[QJ,mn 1,mn 4,gR 1,gR 4,oS,UG],[]⟩
def trS:IE:=(dg FF .u8 5).rep (M3 pcS)
def abt(n:Int):Dec:=match zj n with
 |true=>[]
 |false=>[(.eq trS (.lit 0),false)]
def Xy(n:Int):Dec:=(.eq opS (.lit n),true)::abt n
def adl(n:Int):Out:=th.tree PR kQr 40 aG no' 12 (Xy n)
def GY(l:List Int):Bool:=l.all fun n=>(adl n).all (th.cQ (Gn gO 27) (tSt n)) (Xy n++th.pre)
def ur(k:Nat):List Int:=(List.range 8).map fun n=>Int.ofNat (8*k+n)
theorem ac6:GY (ur 0)=true:=by kernel_rfl
theorem ad6:GY (ur 1)=true:=by kernel_rfl
theorem adg:GY (ur 2)=true:=by kernel_rfl
theorem ac4:GY (ur 3)=true:=by kernel_rfl
theorem ad1:GY x8=true:=by kernel_rfl
theorem Nm:dD=ur 0++(ur 1++(ur 2++(ur 3++x8))):=by decide
theorem stR:GY dD=true:=by
 have h0:=ac6;have h1:=ad6;have h2:=adg;have h3:=ac4;have h4:=ad1;unfold GY at*;rw [Nm,List.all_append,List.all_append,List.all_append,List.all_append,h0,h1,h2,h3,h4];rfl
theorem Xi:kQr.cons.all Con.wf=true:=by kernel_rfl
theorem UF:zj.opsV.all zj=true:=by decide
section
variable{G:Nat->Int->Int->Int->Int}(hB:cX G)(hD:FD.Def G kT)(hF:FF.Def G pa)(hS:FS.Def G BQ)
include hB hD hF
theorem Xk:kQr.Ok PR G gh:=by
 have h: ∀c∈[QJ,mn 1,mn 4,gR 1,gR 4,oS,UG],c.Ok PR G gh:=fun c hc=>by
  simp only [List.mem_cons,List.not_mem_nil,or_false] at hc
  rcases hc with rfl |rfl |rfl |rfl |rfl |rfl |rfl
  ·exact QK hB hD hF
  ·exact qG hB (.inl rfl)
  ·exact qG hB (.inr rfl)
  ·exact nI hB (.inl rfl)
  ·exact nI hB (.inr rfl)
  ·exact yf hB
  ·exact TG
 exact ⟨ku Xi h,fun _ h=>by cases h⟩
omit hB in
theorem T4{ρ:Env}(h1:ρ.std G gh):(Xy (opS.ev ρ)).holds ρ:=by
 refine aR ?_ (decide_eq_true rfl);unfold abt;cases h:zj (opS.ev ρ) with
 |true=>exact aw
 |false=>
  refine aR aw (decide_eq_false fun h0=> ?_)
  have h0:trS.ev ρ=0:=h0;unfold trS at h0;rw [IE.a9] at h0;have hm:=S2 hD hF (ρ:=ρ.rep (M3 pcS)) h1 (fun i lo hi hx=> ?_) h0
  ·have e:opS.ev ρ=(dgB FF 64 0).ev (ρ.rep (M3 pcS)):=by
    rw [<- IE.a9];rfl
   rw [<- e] at hm;rw [List.all_eq_true.1 UF _ hm] at h;cases h
  ·match i with
   |0=>cases hx
   |1=>cases hx; exact wrap_mem .u32 _
   |i+2=>cases hx
include hS
theorem Nu:th.Ok PR G gh:=by
 intro ρ h1 h2 h3;have hf:=T4 hD hF h1;have hin:opS.ev ρ∈dD:=wv;have h:=List.all_eq_true.1 stR _ hin;obtain ⟨e,s,dec',hd',p1,p2⟩:=Out.bP (bJ hf h3) h;unfold Con.cQ at p2;split at p2
 ·rename_i q hq;refine Con.ig (dh PR th.g) (fun B W=>(Con.dJ mixed (Xk hB hD hF) h1 h2 h3 hf p1 B W).toR) hq (nq h2 hd' p2 fun x' s' m hp hm=> ?_)
  obtain ⟨x2,s2,q2,a1,a2,a3⟩:=V5 hS h1 (ρ:=ρ) h2;rw [iA hin,hp] at a1;cases a1;exact xU a2 a3 hm
 ·cases p2
end
end
end Go.Proofs.YtbhlmedfhilkbaaGreat

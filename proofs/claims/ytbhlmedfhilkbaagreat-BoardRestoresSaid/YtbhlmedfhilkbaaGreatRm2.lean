/- Part Rm2. No condition. -/
import Derived.Test.YtbhlmedfhilkbaaGreatRm1
set_option linter.all false
namespace Go.Proofs.YtbhlmedfhilkbaaGreat
open Go Go.Sx
set_option maxRecDepth 1000000
noncomputable section
theorem jN(a b x y:Int):aA false a b x y=if a=b then x else y:=by simp [aA]
theorem ET(a b x y:Int):aA true a b x y=if a<b then x else y:=by simp [aA]
theorem IW: ∀n:Nat,n<8-> ∀r:Int,(r=1\/r=2\/r=4)->(((n:Int).tdiv r).tmod 2=1 ↔ aN .and .i64 (n:Int) r≠0):=by
 intro n hn r hr;have:n=0\/n=1\/n=2\/n=3\/n=4\/n=5\/n=6\/n=7:=by omega
 rcases this with rfl |rfl |rfl |rfl |rfl |rfl |rfl |rfl<;>rcases hr with rfl |rfl |rfl<;>decide
section
variable{ρ:Env}(h2:ρ.ok (bdL [bC 1]))(hm:bn (ρ.i 0))(h14:d14.ev ρ=gN (ρ.i 0))(h15:d15.ev ρ=ql (ρ.i 0))(h16:d16.ev ρ=qe (ρ.i 0))
include h2 hm
omit h2 hm in
theorem tg(a:Int):(a<(dW.ev ρ)) ↔ inM (ρ.i 0) a=true:=by
 show a<mN (ρ.i 0)*256 ↔ decide (a / 256<mN (ρ.i 0))=true;rw [decide_eq_true_iff];omega
include h16 in
theorem FO(i:Nat){r:Int}(hr:r=1\/r=2\/r=4):(kE i r).ev ρ=if okS (ρ.i 0) (ad (ρ.i 1) i) r=true then 1 else 0:=by
 obtain ⟨e1,e2,e3⟩:=tO h2 i;show aA true ((adE i).ev ρ) (dW.ev ρ) (aA false ((IntKind.i64.wrap ((IntKind.i64.wrap (ag (d16.ev ρ) ((IE.quo (adE i) (.lit 256)).ev ρ))).tdiv r)).tmod 2) 1 1 0) 0=_
 have hq:(IE.quo (adE i) (.lit 256)).ev ρ=ad (ρ.i 1) i / 256:=by
  show ((adE i).ev ρ).tdiv 256=_;rw [e1];exact Int.tdiv_eq_ediv_of_nonneg e2
 rw [ET,jN,hq,e1,h16];generalize ad (ρ.i 1) i=a at*;unfold okS
 by_cases hin:a<dW.ev ρ
 ·rw [if_pos hin,(tg a).1 hin,Bool.true_and];have hp:a / 256<mN (ρ.i 0):=of_decide_eq_true ((tg a).1 hin);obtain ⟨p,hpe⟩:=Int.eq_ofNat_of_zero_le (show 0<=a / 256 by omega)
  have hpn:p<(mN (ρ.i 0)).toNat:=by omega
  have hr7:=hm.r p hpn
  have e:ag (ρ.i 0) (a / 256*4+2)=mR (ρ.i 0) p:=by
   rw [hpe];show ag (ρ.i 0) ((p:Int)*4+2)=ag (ρ.i 0) ((4*p+2:Nat):Int)
   congr 1
   omega
  have e':ag (qe (ρ.i 0)) (a / 256)=mR (ρ.i 0) p:=by rw [hpe]; exact fK hpn
  obtain ⟨n,hn⟩:=Int.eq_ofNat_of_zero_le hr7.1;have hw:IntKind.i64.wrap (mR (ρ.i 0) p)=mR (ρ.i 0) p:=bI .i64 _ (by show (-9223372036854775808:Int)<=_; omega) (by show _<=(9223372036854775807:Int); omega)
  rw [e,e',hw,hn];have hb:=IW n (by omega) r hr
  have hw2:IntKind.i64.wrap ((n:Int).tdiv r)=(n:Int).tdiv r:=by
   have:n=0\/n=1\/n=2\/n=3\/n=4\/n=5\/n=6\/n=7:=by omega
   rcases this with rfl |rfl |rfl |rfl |rfl |rfl |rfl |rfl<;>rcases hr with rfl |rfl |rfl<;>decide
  rw [hw2]
  by_cases h:((n:Int).tdiv r).tmod 2=1
  ·rw [if_pos h,if_pos (decide_eq_true (hb.1 h))]
  ·rw [if_neg h,if_neg (by rw [decide_eq_true_iff]; exact fun q=>h (hb.2 q))]
 ·have:inM (ρ.i 0) a=false:=by
   cases hc:inM (ρ.i 0) a with
   |true=>exact absurd ((tg a).2 hc) hin
   |false=>rfl
  rw [if_neg hin,this];rfl
end
section
variable{G:Nat->Int->Int->Int->Int}(hG:cX G){ρ:Env}(h1:ρ.std G gh)(h2:ρ.ok (bdL [bC 1]))(hm:bn (ρ.i 0))
include hG h1
omit h1 in
theorem cY: ∀M y z,G 14 M y z=gN M/\G 15 M y z=ql M/\G 16 M y z=qe M:=fun M y z=>⟨hG 14 (by decide) M y z,hG 15 (by decide) M y z,hG 16 (by decide) M y z⟩
theorem qa:d14.ev ρ=gN (ρ.i 0)/\d15.ev ρ=ql (ρ.i 0)/\d16.ev ρ=qe (ρ.i 0):=by
 refine ⟨?_,?_,?_⟩
 ·show fnI ρ 14 (ρ.i 0) 0 0=_;rw [bY (by decide),h1.1]; exact (cY hG _ _ _).1
 ·show fnI ρ 15 (ρ.i 0) 0 0=_;rw [bY (by decide),h1.1]; exact (cY hG _ _ _).2.1
 ·show fnI ρ 16 (ρ.i 0) 0 0=_;rw [bY (by decide),h1.1]; exact (cY hG _ _ _).2.2
include h2 hm
theorem ud{r:Int}(hr:r=1\/r=2\/r=4): ∀n i,(nOk r i (n+1)).ev ρ=(eO r i (n+1)).ev ρ/\((eO r i (n+1)).ev ρ=1\/(eO r i (n+1)).ev ρ=0):=by
 intro n
 induction n with
 |zero=>
  intro i;show aA false ((kE i r).ev ρ) 1 1 0=(okI i r (.lit 1) (.lit 0)).ev ρ/\((okI i r (.lit 1) (.lit 0)).ev ρ=1\/(okI i r (.lit 1) (.lit 0)).ev ρ=0);rw [ta hG h1 h2,FO h2 hm (qa hG h1).2.2 i hr,jN];cases okS (ρ.i 0) (ad (ρ.i 1) i) r<;>simp [IE.ev]
 |succ n ih=>
  intro i;obtain ⟨q1,q2⟩:=ih (i+1);have e:(nOk r i (n+1+1)).ev ρ=aA false ((kE i r).ev ρ) 1 (aA false ((nOk r (i+1) (n+1)).ev ρ) 1 1 0) 0:=rfl;have e':(eO r i (n+1+1)).ev ρ=(okI i r (eO r (i+1) (n+1)) (.lit 0)).ev ρ:=rfl;rw [e,e',ta hG h1 h2,FO h2 hm (qa hG h1).2.2 i hr,jN,jN,q1];cases okS (ρ.i 0) (ad (ρ.i 1) i) r
  ·simp [IE.ev]
  ·rcases q2 with q |q<;>rw [q]<;>simp
theorem Se{r:Int}(hr:r=1\/r=2\/r=4): ∀n i,(rAt r i n).ev ρ=(atE r i n).ev ρ:=by
 intro n
 induction n with
 |zero=>intro i; rfl
 |succ n ih=>
  intro i;have e:(rAt r i (n+1)).ev ρ=aA false ((kE i r).ev ρ) 1 ((rAt r (i+1) n).ev ρ) ((adE i).ev ρ):=rfl;have e':(atE r i (n+1)).ev ρ=(okI i r (atE r (i+1) n) (adE i)).ev ρ:=rfl;rw [e,e',ta hG h1 h2,FO h2 hm (qa hG h1).2.2 i hr,jN,ih];cases okS (ρ.i 0) (ad (ρ.i 1) i) r<;>simp
omit hm in
theorem Po{r:Int}: ∀n i,(eO r i n).ev ρ=1-> ∀j,j<n->inM (ρ.i 0) (ad (ρ.i 1) (i+j:Nat))=true:=by
 intro n
 induction n with
 |zero=>intro i _ j hj; cases hj
 |succ n ih=>
  intro i h j hj;have e':(eO r i (n+1)).ev ρ=(okI i r (eO r (i+1) n) (.lit 0)).ev ρ:=rfl;rw [e',ta hG h1 h2] at h;split at h
  ·rename_i hk;cases j with
   |zero=>
    unfold okS at hk;simp only [Bool.and_eq_true] at hk;exact hk.1
   |succ j=>
    have:=ih (i+1) h j (by omega)
    rwa [show i+1+j=i+(j+1) by omega] at this
  ·have h:(0:Int)=1:=h;omega
theorem abl(i:Nat)(hin:inM (ρ.i 0) (ad (ρ.i 1) i)=true):(rB i).ev ρ=(pkE i).ev ρ:=by
 obtain ⟨e1,e2,e3⟩:=tO h2 i;show IntKind.u8.wrap (ag (d14.ev ρ) ((adE i).ev ρ))=IntKind.u8.wrap (fnI ρ 20 (ρ.i 0) ((adE i).ev ρ) 0);rw [cj hG h1 (by decide) (by decide),(qa hG h1).1,e1]
 generalize ad (ρ.i 1) i=a at*;have hlt:=(tg a).2 hin;obtain ⟨n,rfl⟩:=Int.eq_ofNat_of_zero_le e2
 have hn:n<256*(mN (ρ.i 0)).toNat:=by
  have:(n:Int)<mN (ρ.i 0)*256:=hlt;omega
 rw [dv hn];show _=IntKind.u8.wrap (pkS (ρ.i 0) (n:Int));unfold pkS;rw [if_pos hin,cZ (eJ _)]
 congr 1
 show ag (ρ.i 0) ((4*n:Nat):Int)=_
 congr 1
 omega
theorem Ye{n:Nat}(hn:n=1\/n=4):fC ρ (obL n):=by
 have hok:(nOk 1 0 n).ev ρ=(eO 1 0 n).ev ρ/\((eO 1 0 n).ev ρ=1\/(eO 1 0 n).ev ρ=0):=by
  rcases hn with rfl |rfl
  ·exact ud hG h1 h2 hm (.inl rfl) 0 0
  ·exact ud hG h1 h2 hm (.inl rfl) 3 0
 intro o ho _;simp only [obL,List.mem_cons,List.not_mem_nil,or_false] at ho
 rcases ho with rfl |rfl |rfl
 ·show aA false ((eO 1 0 n).ev ρ) 1 ((ldW n).ev ρ) 0=aA false ((nOk 1 0 n).ev ρ) 1 ((rW n).ev ρ) 0;rw [hok.1]
  rcases hok.2 with h |h
  ·have hb: ∀j,j<n->(rB j).ev ρ=(pkE j).ev ρ:=fun j hj=>abl hG h1 h2 hm j (by
    have:=Po hG h1 h2 n 0 h j hj
    rwa [Nat.zero_add] at this)
   have:(ldW n).ev ρ=(rW n).ev ρ:=by
    rcases hn with rfl |rfl
    ·exact (hb 0 (by decide)).symm
    ·show (((pkE 3).ev ρ*256+(pkE 2).ev ρ)*256+(pkE 1).ev ρ)*256+(pkE 0).ev ρ=(((rB 3).ev ρ*256+(rB 2).ev ρ)*256+(rB 1).ev ρ)*256+(rB 0).ev ρ;rw [hb 0 (by decide),hb 1 (by decide),hb 2 (by decide),hb 3 (by decide)]
   rw [this]
  ·rw [h,jN,jN,if_neg (by decide),if_neg (by decide)]
 ·exact (Se hG h1 h2 hm (.inl rfl) n 0).symm
 ·show aA false ((eO 1 0 n).ev ρ) 1 1 0=aA false ((nOk 1 0 n).ev ρ) 1 1 0;rw [hok.1]
end
section
variable{G:Nat->Int->Int->Int->Int}(hG:cX G)
include hG
theorem qG{n:Nat}(hn:n=1\/n=4):(mn n).Ok PR G gh:=by
 refine Hu (el:=rfT) (k:=2) (c:=mn n) (Me':= .var 0) (De:=d14) (Re:=d16) (Ce:=d15) rfl (cY hG) rfl rfl (by rcases hn with rfl |rfl<;>rfl) rfl (fun coh ρ h1 h2 h3 hm hc=> ?_) fun ρ h1 h2 h3 hm=> ?_
 ·refine Con.jJ (k:=12) (L:=300) (pol:=aG) (pure:=no') (d:=12) (facts:=[]) (obs:=obL n) mixed (K:=⟨[],[]⟩) bc h1 h2 h3 aw (Ye hG h1 h2 hm hn) ?_;have h:=QR;simp only [Bool.and_eq_true] at h;obtain ⟨a,b,c,d⟩:=h
  rcases hn with rfl |rfl
  ·cases coh
   ·exact b
   ·exact a
  ·cases coh
   ·exact d
   ·exact c
 ·obtain ⟨e14,e15,e16⟩:=qa hG h1;rw [e14,e15,e16];exact bN.refl hm
end
def pB:IE:= .mul (.quo (.var 1) (.lit 256)) (.lit 256)
def v4:IE:= .var 4
def v5:IE:= .var 5
def v7:IE:= .var 7
def cpE(c i e:IE):IE:= .fn 36 c d14 (.fn 9 i e (.lit 0))
def lG:IE:= .add v5 (.lit 256)
def Oa:Con:={g:=57,args:=[pm,.bool (.eq (.var 6) (.lit 1)),.int .i64 v5,.int .i64 v7],os:=fw rfT false d14 d16 v4,bds:=[(5,0,4294967295),(7,0,4294967551)],pre:=[(.lt v7 v5,false),(.lt lG v7,false),(.lt (.add v5 (.lit 255)) dW,true)]++nr false,res:= .tuple [.bool (.eq (.var 6) (.lit 1))],os':=fw rfT false d14 d16 (cpE v4 v7 lG)}
def lSy:ba:={con:=Oa,key:=6,n:=44,sl:=[0,5,6,7],e:= .exit 0,sl':=[5]}
def μSy:IE:= .sub lG v7
def Xh:List (Dec×IE×IE):=[([(.lt v7 lG,false)],cpE v4 v7 lG,v4),([(.lt v7 lG,true)],cpE v4 v7 lG,cpE (.fn 1 v4 v7 (.wrap .u8 (.fn 0 d14 v7 (.lit 0)))) (.add v7 (.lit 1)) lG)]
def tSy:Out:=lSy.tree PR ⟨[],[]⟩ 20 aG no' 12 [] μSy
theorem Yf:tSy.all (Oa.leaf (qX (bdL Oa.bds) 12 Xh)) Oa.pre=true:=by kernel_rfl
theorem Zr:Oa.wf=true:=by kernel_rfl
def oS:Con:=Jc 57 [uV .u32 1] [bC 1] (.bool (.lt pgE nE)) syM
def syF(v:Bool):Dec:=match v with
 |true=>[(.lt (.var 1) dW,true),(.lt (.add pB (.lit 255)) dW,true),(.lt pgE nE,true)]
 |false=>[(.lt (.var 1) dW,false),(.lt pgE nE,false)]
def Us(v coh:Bool):IE:=match v,coh with
 |true,false=>cpE d15 pB (.add pB (.lit 256))
 |_,_=>d15
def Di(v coh:Bool):Bool:=((sR oS rfT coh d14 d16 (Us v coh)).tree PR ⟨[],[lSy]⟩ 20 aG no' 12 (syF v)).all ((sR oS rfT coh d14 d16 (Us v coh)).leaf (qX (bdL oS.bds) 12 [])) (syF v++(nr coh++oS.pre))
theorem Pm:(Di true true&&(Di true false&&(Di false true&&Di false false)))=true:=by kernel_rfl
section
variable{G:Nat->Int->Int->Int->Int}(hG:cX G)
include hG
omit hG in
theorem ad0{ρ:Env}(h2:ρ.ok (bdL [bC 1])):ad (ρ.i 1) (0:Nat)=ρ.i 1:=(tO h2 0).1.symm
theorem Kw{ρ:Env}(h1:ρ.std G gh)(h2:ρ.ok (bdL [bC 1]))(hm:bn (ρ.i 0))(d:IE){X:Int}(hX:okS (ρ.i 0) (ρ.i 1) 4=true->ag (d.ev ρ) (ρ.i 1)=X/\cdS (ρ.i 0) (ρ.i 1)=IntKind.u8.wrap X):
 (IE.sel false (f22 4) (.lit 1) cdE (.lit 0)).ev ρ=(IE.sel false (kE 0 4) (.lit 1) (.sel true (.var 1) dW (.wrap .u8 (.fn 0 d (.var 1) (.lit 0))) (.lit 0)) (.lit 0)).ev ρ:=by
 obtain ⟨e14,e15,e16⟩:=qa hG h1;have hk:=FO h2 hm e16 0 (r:=4) (.inr (.inr rfl));rw [ad0 h2] at hk;have hf:(f22 4).ev ρ=b2 (okS (ρ.i 0) (ρ.i 1) 4):=FX hG h1 (.var 1) 4;show aA false ((f22 4).ev ρ) 1 (cdE.ev ρ) 0=aA false ((kE 0 4).ev ρ) 1 (aA true (ρ.i 1) (dW.ev ρ) (IntKind.u8.wrap (ag (d.ev ρ) (ρ.i 1))) 0) 0;rw [hf,hk,jN,jN,ET];cases ho:okS (ρ.i 0) (ρ.i 1) 4
 ·rfl
 ·obtain ⟨x1,x2⟩:=hX ho
  have hin:inM (ρ.i 0) (ρ.i 1)=true:=by
   unfold okS at ho;simp only [Bool.and_eq_true] at ho;exact ho.1
  rw [if_pos ((tg (ρ:=ρ) (ρ.i 1)).2 hin),x1,show cdE.ev ρ=IntKind.u8.wrap X from (Ew hG h1 h2).trans x2]
  rfl
theorem WM{ρ:Env}(h1:ρ.std G gh)(h2:ρ.ok (bdL [bC 1]))(hm:bn (ρ.i 0)){coh:Bool}(hc:aP (ρ.i 0)=coh):fC ρ (obF coh):=by
 obtain ⟨e14,e15,e16⟩:=qa hG h1;have hk:=FO h2 hm e16 0 (r:=4) (.inr (.inr rfl));rw [ad0 h2] at hk;have hf:(f22 4).ev ρ=b2 (okS (ρ.i 0) (ρ.i 1) 4):=FX hG h1 (.var 1) 4;obtain ⟨q1,q2,_⟩:=c8 h2 rfl;obtain ⟨n,hn⟩:=Int.eq_ofNat_of_zero_le q1
 have inl:okS (ρ.i 0) (ρ.i 1) 4=true->inM (ρ.i 0) (ρ.i 1)=true/\n<256*(mN (ρ.i 0)).toNat:=fun ho=>by
  have hin:inM (ρ.i 0) (ρ.i 1)=true:=by
   unfold okS at ho;simp only [Bool.and_eq_true] at ho;exact ho.1
  have:ρ.i 1<mN (ρ.i 0)*256:=(tg (ρ:=ρ) (ρ.i 1)).2 hin;exact ⟨hin,by omega⟩
 intro o ho _;simp only [obF,List.mem_cons,List.not_mem_nil,or_false] at ho
 rcases ho with rfl |rfl |rfl
 ·cases coh
  ·refine Kw hG h1 h2 hm d15 (X:=mC (ρ.i 0) n) fun ho=> ?_
   obtain ⟨a,b⟩:=inl ho;refine ⟨by rw [e15,hn]; exact fg b,?_⟩
   unfold cdS;rw [if_pos a,hc,hn];show IntKind.u8.wrap (ag (ρ.i 0) ((n:Int)*4+1))=IntKind.u8.wrap (ag (ρ.i 0) ((4*n+1:Nat):Int));rw [show ((4*n+1:Nat):Int)=(n:Int)*4+1 by omega]
  ·refine Kw hG h1 h2 hm d14 (X:=mD (ρ.i 0) n) fun ho=> ?_
   obtain ⟨a,b⟩:=inl ho;refine ⟨by rw [e14,hn]; exact dv b,?_⟩
   unfold cdS;rw [if_pos a,hc,hn];show IntKind.u8.wrap (ag (ρ.i 0) ((n:Int)*4))=IntKind.u8.wrap (ag (ρ.i 0) ((4*n:Nat):Int));rw [show ((4*n:Nat):Int)=(n:Int)*4 by omega]
 ·show aA false ((f22 4).ev ρ) 1 0 (ρ.i 1)=aA false ((kE 0 4).ev ρ) 1 0 (ρ.i 1);rw [hf,hk];cases okS (ρ.i 0) (ρ.i 1) 4<;>rfl
 ·show aA false ((f22 4).ev ρ) 1 1 0=aA false (aA false ((kE 0 4).ev ρ) 1 1 0) 1 1 0;rw [hf,hk];cases okS (ρ.i 0) (ρ.i 1) 4<;>rfl
theorem oq:iX.Ok PR G gh:=by
 refine Hu (el:=rfT) (k:=2) (c:=iX) (Me':= .var 0) (De:=d14) (Re:=d16) (Ce:=d15) rfl (cY hG) rfl rfl rfl rfl (fun coh ρ h1 h2 h3 hm hc=> ?_) fun ρ h1 h2 h3 hm=> ?_
 ·refine Con.jJ (k:=12) (L:=300) (pol:=aG) (pure:=no') (d:=12) (facts:=[]) (obs:=obF coh) mixed (K:=⟨[],[]⟩) bc h1 h2 h3 aw (WM hG h1 h2 hm hc) ?_;have h:=MX;simp only [Bool.and_eq_true] at h;cases coh
  ·exact h.2
  ·exact h.1
 ·obtain ⟨e14,e15,e16⟩:=qa hG h1;rw [e14,e15,e16];exact bN.refl hm
end
theorem D1(a:Int)(i:Int):0<=ad a i/\ad a i<=4294967295:=wrap_mem .u32 _
theorem Jx{M Mk D R C a b:Int}(h:bN M Mk D R C)(h0:0<=a)(hin:inM M a=true)(hb:isByte b):bN M (stS Mk a b) (aD D a b) R C:=by
 obtain ⟨n,rfl⟩:=Int.eq_ofNat_of_zero_le h0
 have hink:inM Mk (n:Int)=true:=by
  unfold inM at*;rw [h.n]; exact hin
 have e:stS Mk (n:Int) b=aD Mk ((4*n:Nat):Int) b:=by
  unfold stS;rw [if_pos hink,show ((4*n:Nat):Int)=(n:Int)*4 by omega]
 have g: ∀j:Nat,ag (stS Mk (n:Int) b) (j:Nat)=if j=4*n then b else ag Mk j:=fun j=>by
  rw [e]; exact cF hb
 have eN:mN (stS Mk n b)=mN Mk:=by
  show ag _ ((3:Nat):Int)=_;rw [g,if_neg (by omega)]; rfl
 have eC:aP (stS Mk n b)=aP Mk:=by
  unfold aP;rw [g,if_neg (by omega)]
 have eD: ∀j,mD (stS Mk n b) j=if j=n then b else mD Mk j:=fun j=>by
  unfold mD;rw [g]
  by_cases hj:j=n
  ·rw [if_pos hj,if_pos (by omega)]
  ·rw [if_neg hj,if_neg (by omega)]
 have eI: ∀j,mC (stS Mk n b) j=mC Mk j:=fun j=>by
  unfold mC;rw [g,if_neg (by omega)]
 have eR: ∀j,mR (stS Mk n b) j=mR Mk j:=fun j=>by
  unfold mR;rw [g,if_neg (by omega)]
 refine ⟨⟨by rw [eN]; exact h.ok.n,fun p j hp hj=> ?_,fun hc p j hp hj=> ?_,fun p hp=> ?_,by rw [e]; exact h.ok.k.set (.inr (.inr (.inl ⟨n,by have hx:(n:Int) / 256<mN Mk:=of_decide_eq_true hink; omega,.inl rfl⟩))) (by omega) (by omega)⟩,eN.trans h.n,eC.trans h.coh,fun j hj=> ?_,fun j hj=> ?_,fun hc j hj=> ?_⟩
 ·rw [eN] at hp;rw [eD];split
  ·exact hb
  ·exact h.ok.d p j hp hj
 ·rw [eN] at hp;rw [eC] at hc;rw [eI];exact h.ok.c hc p j hp hj
 ·rw [eN] at hp;rw [eR];exact h.ok.r p hp
 ·rw [eD,cF hb];split
  ·rfl
  ·exact h.d j hj
 ·rw [eR]; exact h.r j hj
 ·rw [eI]; exact h.c hc j hj
section
variable{G:Nat->Int->Int->Int->Int}(hG:cX G){ρ:Env}(h1:ρ.std G gh)(h2:ρ.ok (bdL [bC 1,bC 2]))(hm:bn (ρ.i 0))
include hG h1 h2 hm
omit hG h1 hm in
theorem h2':ρ.ok (bdL [bC 1]):=fun i lo hi h=>by
 match i with
 |1=>exact h2 1 lo hi h
 |0=>cases h
 |i+2=>cases h
theorem Yl{n:Nat}(hn:n=1\/n=4):fC ρ (obS n):=by
 have hok:(nOk 2 0 n).ev ρ=(eO 2 0 n).ev ρ:=by
  rcases hn with rfl |rfl
  ·exact (ud hG h1 (h2' h2) hm (.inr (.inl rfl)) 0 0).1
  ·exact (ud hG h1 (h2' h2) hm (.inr (.inl rfl)) 3 0).1
 intro o ho _;simp only [obS,List.mem_cons,List.not_mem_nil,or_false] at ho
 rcases ho with rfl |rfl
 ·exact (Se hG h1 (h2' h2) hm (.inr (.inl rfl)) n 0).symm
 ·show aA false ((eO 2 0 n).ev ρ) 1 1 0=aA false ((nOk 2 0 n).ev ρ) 1 1 0;rw [hok]
omit hG h1 hm in
theorem V3: ∀i:Nat,i<4->(v2 i).ev ρ=ρ.i 2 / ((256^i:Nat):Int):=by
 obtain ⟨q1,q2⟩:=h2 2 0 4294967295 rfl;have e1:(v2 1).ev ρ=ρ.i 2 / 256:=Int.tdiv_eq_ediv_of_nonneg q1
 have e2:(v2 2).ev ρ=ρ.i 2 / 65536:=by
  show ((v2 1).ev ρ).tdiv 256=_;rw [e1,Int.tdiv_eq_ediv_of_nonneg (by omega)]
  omega
 have e3:(v2 3).ev ρ=ρ.i 2 / 16777216:=by
  show ((v2 2).ev ρ).tdiv 256=_;rw [e2,Int.tdiv_eq_ediv_of_nonneg (by omega)]
  omega
 intro i hi;have:i=0\/i=1\/i=2\/i=3:=by omega
 rcases this with rfl |rfl |rfl |rfl
 ·show ρ.i 2=ρ.i 2 / 1;omega
 ·exact e1
 ·exact e2
 ·exact e3
omit hG h1 hm in
theorem YI{i:Nat}(hi:i<4):(btE i).ev ρ=IntKind.u8.wrap ((v2 i).ev ρ):=by
 obtain ⟨q1,q2⟩:=h2 2 0 4294967295 rfl;show IntKind.u8.wrap ((ρ.i 2).tdiv ((256^i:Nat):Int))=_;rw [Int.tdiv_eq_ediv_of_nonneg q1,V3 h2 i hi]
theorem UD{n:Nat}(hn:n=1\/n=4):bN (ρ.i 0) ((gR n).os'.head?.elim 0 fun o=>match o with | .ghost _ [e] _=>e.ev ρ |_=>0) ((Mc n).ev ρ) (d16.ev ρ) (d15.ev ρ):=by
 obtain ⟨e14,e15,e16⟩:=qa hG h1
 have hok:(nOk 2 0 n).ev ρ=(eO 2 0 n).ev ρ/\((eO 2 0 n).ev ρ=1\/(eO 2 0 n).ev ρ=0):=by
  rcases hn with rfl |rfl
  ·exact ud hG h1 (h2' h2) hm (.inr (.inl rfl)) 0 0
  ·exact ud hG h1 (h2' h2) hm (.inr (.inl rfl)) 3 0
 show bN (ρ.i 0) (aA false ((eO 2 0 n).ev ρ) 1 ((stW n).ev ρ) (ρ.i 0)) (aA false ((nOk 2 0 n).ev ρ) 1 ((X8 n).ev ρ) (d14.ev ρ)) (d16.ev ρ) (d15.ev ρ);rw [hok.1];have r0:=bN.refl hm;rw [<- e14,<-e15,<-e16] at r0
 rcases hok.2 with h |h
 ·rw [h,jN,jN,if_pos rfl,if_pos rfl]
  have hin: ∀j,j<n->inM (ρ.i 0) (ad (ρ.i 1) (j:Nat))=true:=fun j hj=>by
   have:=Po hG h1 (h2' h2) n 0 h j hj
   rwa [Nat.zero_add] at this
  have step: ∀(j:Nat) (Me De:IE),j<n->bN (ρ.i 0) (Me.ev ρ) (De.ev ρ) (d16.ev ρ) (d15.ev ρ)->bN (ρ.i 0) ((IE.fn 30 Me (adE j) (btE j)).ev ρ) ((IE.fn 1 De (adE j) (.wrap .u8 (v2 j))).ev ρ) (d16.ev ρ) (d15.ev ρ):=by
   intro j Me De hj hr;show bN (ρ.i 0) (fnI ρ 30 (Me.ev ρ) ((adE j).ev ρ) ((btE j).ev ρ)) (aD (De.ev ρ) ((adE j).ev ρ) (IntKind.u8.wrap ((v2 j).ev ρ))) _ _;rw [cj hG h1 (by decide) (by decide),(tO (h2' h2) j).1,YI h2 (by omega)]
   exact Jx hr (D1 _ _).1 (hin j hj) (eJ _)
  rcases hn with rfl |rfl
  ·exact step 0 (.var 0) d14 (by decide) r0
  ·have h3:=step 3 _ _ (by decide) (step 2 _ _ (by decide) (step 1 _ _ (by decide) (step 0 (.var 0) d14 (by decide) r0)))
   have e3:(v2 3).ev ρ=IntKind.u8.wrap ((v2 3).ev ρ):=by
    obtain ⟨q1,q2⟩:=h2 2 0 4294967295 rfl;have:=V3 h2 3 (by decide)
    have e:((256^3:Nat):Int)=16777216:=rfl;rw [e] at this;exact (bI .u8 _ (by show (0:Int)<=_; omega) (by show _<=(255:Int); omega)).symm
   have e:(X8 4).ev ρ=(IE.fn 1 (.fn 1 (.fn 1 (.fn 1 d14 (adE 0) (.wrap .u8 (v2 0))) (adE 1) (.wrap .u8 (v2 1))) (adE 2) (.wrap .u8 (v2 2))) (adE 3) (.wrap .u8 (v2 3))).ev ρ:=by
    show aD _ _ ((v2 3).ev ρ)=aD _ _ (IntKind.u8.wrap ((v2 3).ev ρ));rw [<- e3]
   rw [e];exact h3
 ·rw [h,jN,jN,if_neg (by decide),if_neg (by decide)]
  exact r0
end
section
variable{G:Nat->Int->Int->Int->Int}(hG:cX G)
include hG
theorem nI{n:Nat}(hn:n=1\/n=4):(gR n).Ok PR G gh:=by
 refine Hu (el:=rfT) (k:=2) (c:=gR n) (Me':= .sel false (eO 2 0 n) (.lit 1) (stW n) (.var 0)) (De:=Mc n) (Re:=d16) (Ce:=d15) rfl (cY hG) rfl rfl (by rcases hn with rfl |rfl<;>rfl) rfl (fun coh ρ h1 h2 h3 hm hc=> ?_) fun ρ h1 h2 h3 hm=>UD hG h1 h2 hm hn
 refine Con.jJ (k:=12) (L:=300) (pol:=aG) (pure:=no') (d:=12) (facts:=[]) (obs:=obS n) mixed (K:=⟨[],[]⟩) bc h1 h2 h3 aw (Yl hG h1 h2 hm hn) ?_;have h:=GM;have h':=IN;simp only [Bool.and_eq_true] at h h'
 rcases hn with rfl |rfl
 ·cases coh
  ·exact h.2
  ·exact h.1
 ·cases coh
  ·exact h'.2
  ·exact h'.1
end
theorem Tf{C D:Int}{i:Nat}: ∀n j:Nat,ag (cpR C D i n) (j:Nat)=if i<=j/\j<i+n then IntKind.u8.wrap (ag D j) else ag C j:=by
 intro n
 induction n with
 |zero=>intro j; rw [if_neg (by omega)]; rfl
 |succ n ih=>
  intro j;show ag (aD (cpR C D i n) ((i+n:Nat):Int) (IntKind.u8.wrap (ag D ((i+n:Nat):Int)))) (j:Nat)=_;rw [cF (eJ _),ih]
  by_cases h:j=i+n
  ·rw [if_pos h,if_pos (by omega),h]
  ·rw [if_neg h]
   by_cases h':i<=j/\j<i+n
   ·rw [if_pos h',if_pos (by omega)]
   ·rw [if_neg h',if_neg (by omega)]
theorem Mp{D:Int}: ∀(n i:Nat) (C:Int),cpR C D i (n+1)=cpR (aD C (i:Nat) (IntKind.u8.wrap (ag D (i:Nat)))) D (i+1) n:=by
 intro n
 induction n with
 |zero=>intro i C; rfl
 |succ n ih=>
  intro i C;show aD (cpR C D i (n+1)) ((i+(n+1):Nat):Int) _=aD (cpR (aD C (i:Nat) _) D (i+1) n) ((i+1+n:Nat):Int) _;rw [ih,show i+(n+1)=i+1+n by omega]
theorem Nk{M:Int}{p:Nat}(hm:bn M)(hp:p<(mN M).toNat)(hc:aP M=false):bN M (fP M (ixC p) (fun j=>mD M (256*p+j)) 256) (gN M) (qe M) (cpR (ql M) (gN M) (256*p) 256):=by
 have hx:=lJ (g:=fun j=>mD M (256*p+j)) (n:=256) hm hc hp (fun j=>gU _ _) (Nat.le_refl _) (C:=pgD M p) fun j hj=>by rw [if_pos hj]; exact fe M p j hj
 generalize fP M (ixC p) (fun j=>mD M (256*p+j)) 256=M' at*
 have eD: ∀q j,q<(mN M).toNat->j<256->mD M' (256*q+j)=mD M (256*q+j):=fun q j hq hj=>by
  by_cases h:q=p
  ·subst h; rw [hx.d j hj]; exact fe M q j hj
  ·exact (hx.other q j hq h hj).1
 have eC: ∀q j,q<(mN M).toNat->j<256->mC M' (256*q+j)=if q=p then mD M (256*q+j) else mC M (256*q+j):=fun q j hq hj=>by
  by_cases h:q=p
  ·subst h; rw [if_pos rfl,hx.c hc j hj]; exact fe M q j hj
  ·rw [if_neg h]; exact (hx.other q j hq h hj).2 hc
 have eR: ∀q,q<(mN M).toNat->mR M' q=mR M q:=fun q hq=>by
  by_cases h:q=p
  ·subst h; exact hx.r.1
  ·exact hx.rights q hq h
 have part: ∀j,j<256*(mN M).toNat->256*(j / 256)+j % 256=j/\j / 256<(mN M).toNat/\j % 256<256:=fun j hj=>⟨Nat.div_add_mod j 256,by omega,Nat.mod_lt _ (by decide)⟩
 refine ⟨⟨by rw [hx.n]; exact hm.n,fun q j hq hj=> ?_,fun _ q j hq hj=> ?_,fun q hq=> ?_,hx.k⟩,hx.n,hx.coh,fun j hj=> ?_,fun j hj=> ?_,fun _ j hj=> ?_⟩
 ·rw [hx.n] at hq;rw [eD q j hq hj];exact hm.d q j hq hj
 ·rw [hx.n] at hq;rw [eC q j hq hj];split
  ·exact hm.d q j hq hj
  ·exact hm.c hc q j hq hj
 ·rw [hx.n] at hq;rw [eR q hq];exact hm.r q hq
 ·obtain ⟨a,b,c⟩:=part j hj;have:=eD _ _ b c;rw [a] at this;rw [this,dv hj]
 ·rw [eR j hj,fK hj]
 ·obtain ⟨a,b,c⟩:=part j hj;have:=eC _ _ b c;rw [a] at this;rw [this,Tf]
  by_cases h:j / 256=p
  ·rw [if_pos h,if_pos (by omega),dv hj,cZ (hm.byte hj).1]
  ·rw [if_neg h,if_neg (by omega),fg hj]
section
variable{G:Nat->Int->Int->Int->Int}(hG:cX G)
include hG
theorem Dt{ρ:Env}(h1:ρ.std G gh){c i e:IE}{x y:Nat}(hi:i.ev ρ=x)(he:e.ev ρ=y):(cpE c i e).ev ρ=cpR (c.ev ρ) (d14.ev ρ) x (y-x):=by
 show fnI ρ 36 (c.ev ρ) (d14.ev ρ) (fnI ρ 9 (i.ev ρ) (e.ev ρ) 0)=_;rw [cj hG h1 (by decide) (by decide),cj hG h1 (by decide) (by decide),hi,he]
 show cpR _ _ (unpI (cG x y)).1.toNat ((unpI (cG x y)).2.toNat-(unpI (cG x y)).1.toNat)=_;rw [dK];rfl
theorem W1:lSy.Ok PR G gh:=by
 refine ba.f6 (c:=lSy) (L:=20) (pol:=aG) (pure:=no') (d:=12) (facts:=[]) (μ:=μSy) mixed (K:=⟨[],[]⟩) bc Zr rfl (fun _ _ _ _=>aw) (Con.Ca [] (fun _ _ _ _=>aw) 12 Xh (fun ρ h1 h2 h3=> ?_) Yf)
 obtain ⟨p1,p2⟩:=h2 5 0 4294967295 rfl;obtain ⟨i1,i2⟩:=h2 7 0 4294967551 rfl;obtain ⟨p,hp⟩:=Int.eq_ofNat_of_zero_le p1;obtain ⟨i,hi⟩:=Int.eq_ofNat_of_zero_le i1;have e1:v7.ev ρ=(i:Nat):=hi
 have e2:lG.ev ρ=((p+256:Nat):Int):=by
  show ρ.i 5+256=_;rw [hp]; omega
 intro o ho hd;simp only [Xh,List.mem_cons,List.not_mem_nil,or_false] at ho
 rcases ho with rfl |rfl
 ·have h: ¬v7.ev ρ<lG.ev ρ:=of_decide_eq_false (hd _ (List.mem_cons_self ..));rw [e1,e2] at h;show (cpE v4 v7 lG).ev ρ=v4.ev ρ;rw [Dt hG h1 e1 e2,show p+256-i=0 by omega]
  rfl
 ·have h:v7.ev ρ<lG.ev ρ:=of_decide_eq_true (hd _ (List.mem_cons_self ..));rw [e1,e2] at h
  have e3:(IE.add v7 (.lit 1)).ev ρ=((i+1:Nat):Int):=by
   show v7.ev ρ+1=_;rw [e1]; omega
  show (cpE v4 v7 lG).ev ρ=(cpE (.fn 1 v4 v7 (.wrap .u8 (.fn 0 d14 v7 (.lit 0)))) (.add v7 (.lit 1)) lG).ev ρ;rw [Dt hG h1 e1 e2,Dt hG h1 e3 e2,show p+256-i=(p+256-(i+1))+1 by omega,Mp]
  show _=cpR (aD (v4.ev ρ) (v7.ev ρ) (IntKind.u8.wrap (ag (d14.ev ρ) (v7.ev ρ)))) _ _ _;rw [e1]
omit hG in
theorem WB{ρ:Env}(h2:ρ.ok (bdL [bC 1])): ∃v,(syF v).holds ρ/\v=inM (ρ.i 0) (ρ.i 1):=by
 obtain ⟨q1,q2,q3⟩:=c8 h2 rfl;have hlen:dW.ev ρ=mN (ρ.i 0)*256:=rfl;have hN:nE.ev ρ=mN (ρ.i 0):=rfl
 have hq:pB.ev ρ=ρ.i 1 / 256*256:=by
  show pgE.ev ρ*256=_;rw [q3]
 refine ⟨_,?_,rfl⟩;cases h:inM (ρ.i 0) (ρ.i 1) with
 |true=>
  have h:=of_decide_eq_true h;refine aR (aR (aR aw (t:= .lt pgE nE) (v:=true) (decide_eq_true ?_)) (t:= .lt (.add pB (.lit 255)) dW) (v:=true) (decide_eq_true ?_)) (t:= .lt (.var 1) dW) (v:=true) (decide_eq_true ?_)
  ·rw [q3,hN]; exact h
  ·show pB.ev ρ+255<dW.ev ρ;rw [hq,hlen]; omega
  ·show ρ.i 1<dW.ev ρ;rw [hlen]; omega
 |false=>
  have h:=of_decide_eq_false h;refine aR (aR aw (t:= .lt pgE nE) (v:=false) (decide_eq_false ?_)) (t:= .lt (.var 1) dW) (v:=false) (decide_eq_false ?_)
  ·rw [q3,hN]; exact h
  ·show ¬ρ.i 1<dW.ev ρ;rw [hlen]; omega
theorem yf:oS.Ok PR G gh:=by
 have kn:Know.Ok PR G gh ⟨[],[lSy]⟩:=⟨bO.nil,fun c hc=>by
  rw [List.mem_singleton.1 hc];exact ⟨Zr,W1 hG⟩⟩
 have hrun:=Pm;simp only [Bool.and_eq_true] at hrun;obtain ⟨a1,a2,a3,a4⟩:=hrun;refine ry (el:=rfT) (k:=2) (c:=oS) (Me':=syM) rfl (cY hG) rfl rfl rfl rfl (fun coh ρ h1 h2 h3 hm hc=> ?_)
 obtain ⟨v,hv,hvi⟩:=WB (ρ:=ρ) h2;refine ⟨d14,d16,Us v coh,?_,?_⟩
 ·refine Con.jJ (k:=12) (L:=20) (pol:=aG) (pure:=no') (d:=12) (facts:=syF v) (obs:=[]) mixed (K:=⟨[],[lSy]⟩) kn h1 h2 h3 hv (fun _ ho=>by cases ho) ?_
  cases v<;>cases coh
  ·exact a4
  ·exact a3
  ·exact a2
  ·exact a1
 ·obtain ⟨e14,e15,e16⟩:=qa hG h1;obtain ⟨q1,q2,q3⟩:=c8 h2 rfl;rw [e14,e16];have r0:=bN.refl hm;rw [Ja hG h1];unfold syS;cases v
  ·rw [<- hvi];show bN (ρ.i 0) (ρ.i 0) _ _ (d15.ev ρ);rw [e15];exact r0
  ·rw [<- hvi,hc];cases coh
   ·have hin:ρ.i 1 / 256<mN (ρ.i 0):=of_decide_eq_true hvi.symm;obtain ⟨p,hp⟩:=Int.eq_ofNat_of_zero_le (show 0<=ρ.i 1 / 256 by omega)
    have hpn:p<(mN (ρ.i 0)).toNat:=by omega
    have hpB:pB.ev ρ=((256*p:Nat):Int):=by
     show pgE.ev ρ*256=_;rw [q3,hp]; omega
    have hpE:(IE.add pB (.lit 256)).ev ρ=((256*p+256:Nat):Int):=by
     show pB.ev ρ+256=_;rw [hpB]; omega
    have hce:(Us true false).ev ρ=cpR (ql (ρ.i 0)) (gN (ρ.i 0)) (256*p) 256:=by
     show (cpE d15 pB (.add pB (.lit 256))).ev ρ=_;rw [Dt hG h1 hpB hpE,e14,e15,show 256*p+256-256*p=256 by omega]
    rw [hce,hp];show bN (ρ.i 0) (fP (ρ.i 0) (ixC p) (fun j=>mD (ρ.i 0) (256*p+j)) 256) _ _ _
    exact Nk hm hpn hc
   ·show bN (ρ.i 0) (ρ.i 0) _ _ (d15.ev ρ);rw [e15];exact r0
end
abbrev mpT:TypeId:=143
abbrev Zp:TypeId:=31
def abd(v:ab)(t:TypeId):ah:= .cells (aX [v] 0) t true 1
def i6B(i:Nat):Nat×Int×Int:=(i,0,1000000)
def poE(M i:IE):IE:= .fn 38 M (.fn 9 (.var 1) (.var 4) (.lit 0)) (.fn 9 i (.var 5) (.lit 0))
def aaz(k:Nat)(M:IE):List ah:=[abd (.ptr (some (2,0))) mpT,abd (uV .u32 1) Zp,dZ k M]
def MO(k:Nat):Con:={g:=177,args:=[.strS (.var 4) (.var 5),.func (Fn.func 178) [] [.ptr (some (0,0)),.ptr (some (1,0))],.int .i64 (.var 5),.int .i64 (.var 7)],os:=aaz k (.var 0),bds:=[bC 1,i6B 5,i6B 7],pre:=[(.lt (.var 5) (.var 7),false)],res:= .tuple [],os':=aaz k (poE (.var 0) (.var 7))}
def lPo(k:Nat):ba:={con:=MO k,key:=2,n:=17,sl:=[0,1,6,7],e:= .exit 0,sl':=[]}
def μPo:IE:= .sub (.var 5) (.var 7)
def tPo(k:Nat):Out:=(lPo k).tree PR ⟨[pR k],[]⟩ 20 aG no' 12 [] μPo
def poN:IE:=poE (.fn 30 (.var 0) (.wrap .u32 (.add (.var 1) (.var 7))) (.wrap .u8 (.fn 0 (.var 4) (.var 7) (.lit 0)))) (.add (.var 7) (.lit 1))
def Yj:List (Dec×IE×IE):=[([(.lt (.var 7) (.var 5),false)],poE (.var 0) (.var 7),.var 0),([(.lt (.var 7) (.var 5),true)],poE (.var 0) (.var 7),poN)]
def U4(k:Nat):Bool:=(tPo k).all ((MO k).leaf (qX (bdL (MO k).bds) 12 Yj)) (MO k).pre&&((MO k).wf&&(pR k).wf)
theorem po0:U4 0=true:=by kernel_rfl
theorem po1:U4 1=true:=by kernel_rfl
def oU(k:Nat):Con:=rp k 170 [uV .u32 1,.strS (.var 4) (.var 5)] [bC 1,i6B 5] (.tuple []) (poE (.var 0) (.lit 0))
def vq(k:Nat):Bool:=fq (oU k) ⟨[],[lPo k]⟩ 20 12 12&&(oU k).wf
theorem YR:vq 0=true:=by kernel_rfl
theorem YH:vq 1=true:=by kernel_rfl
section
variable{G:Nat->Int->Int->Int->Int}(hG:cX G)
include hG
theorem jd{GH:Nat->bz}{ρ:Env}(h1:ρ.std G GH)(x y:IE):(IE.fn 9 x y (.lit 0)).ev ρ=cG (x.ev ρ) (y.ev ρ):=by
 show fnI ρ 9 (x.ev ρ) (y.ev ρ) 0=_;rw [cj hG h1 (by decide) (by decide)]
 rfl
theorem Da{ρ:Env}(h1:ρ.std G gh)(M i:IE):(poE M i).ev ρ=poF (M.ev ρ) (ρ.i 1) (ρ.i 4) (i.ev ρ).toNat ((ρ.i 5).toNat-(i.ev ρ).toNat):=by
 show fnI ρ 38 (M.ev ρ) ((IE.fn 9 (.var 1) (.var 4) (.lit 0)).ev ρ) ((IE.fn 9 i (.var 5) (.lit 0)).ev ρ)=_;rw [cj hG h1 (by decide) (by decide),jd hG h1,jd hG h1]
 show poF _ (unpI (cG (ρ.i 1) (ρ.i 4))).1 (unpI (cG (ρ.i 1) (ρ.i 4))).2 (unpI (cG (i.ev ρ) (ρ.i 5))).1.toNat ((unpI (cG (i.ev ρ) (ρ.i 5))).2.toNat-(unpI (cG (i.ev ρ) (ρ.i 5))).1.toNat)=_;rw [dK,dK]
theorem Vo{ρ:Env}(h1:ρ.std G gh)(h2:ρ.ok (bdL [bC 1,i6B 5,i6B 7])):fC ρ Yj:=by
 have h7:=h2 7 0 1000000 rfl;have h5:=h2 5 0 1000000 rfl;refine cM (fun hd=> ?_) (cM (fun hd=> ?_) ct)
 ·have hd:decide (ρ.i 7<ρ.i 5)=false:=hd (.lt (.var 7) (.var 5),false) (by simp)
  have hd:=of_decide_eq_false hd;rw [Da hG h1];show poF (ρ.i 0) _ _ (ρ.i 7).toNat ((ρ.i 5).toNat-(ρ.i 7).toNat)=ρ.i 0;rw [show (ρ.i 5).toNat-(ρ.i 7).toNat=0 by omega]
  rfl
 ·have hd:decide (ρ.i 7<ρ.i 5)=true:=hd (.lt (.var 7) (.var 5),true) (by simp)
  have hd:=of_decide_eq_true hd;rw [Da hG h1,poN,Da hG h1];obtain ⟨i,hi⟩:=Int.eq_ofNat_of_zero_le h7.1;have e0:(IE.var 7).ev ρ=(i:Int):=hi;have e1:(IE.add (.var 7) (.lit 1)).ev ρ=((i+1:Nat):Int):=by show ρ.i 7+1=_; rw [hi]; rfl
  have e2:(IE.fn 30 (.var 0) (.wrap .u32 (.add (.var 1) (.var 7))) (.wrap .u8 (.fn 0 (.var 4) (.var 7) (.lit 0)))).ev ρ=stS (ρ.i 0) (ad (ρ.i 1) i) (IntKind.u8.wrap (ag (ρ.i 4) i)):=by
   show fnI ρ 30 (ρ.i 0) (IntKind.u32.wrap (ρ.i 1+ρ.i 7)) (IntKind.u8.wrap (ag (ρ.i 4) (ρ.i 7)))=_;rw [cj hG h1 (by decide) (by decide),hi]
   rfl
  rw [e0,e1,e2,Int.toNat_natCast,Int.toNat_natCast];obtain ⟨k,hk⟩: ∃k,(ρ.i 5).toNat-i=k+1:=⟨(ρ.i 5).toNat-i-1,by omega⟩
  rw [hk,show (ρ.i 5).toNat-(i+1)=k by omega]
  rfl
theorem Ys{k:Nat}(hk:k<2):(MO k).wf=true/\(lPo k).Ok PR G gh:=by
 have h:=two (p:=fun k=>U4 k=true) po0 po1 hk
 simp only [U4,Bool.and_eq_true] at h;obtain ⟨h,hw,hw'⟩:=h;refine ⟨hw,ba.f6 (c:=lPo k) mixed (K:=⟨[pR k],[]⟩) ⟨ku (by simp [hw']) (fun c hc=> ?_),fun _ h=>by cases h⟩ hw rfl (facts:=[]) (fun _ _ _ _=>aw) (Con.Ca [] (fun _ _ _ _=>aw) 12 Yj (fun ρ h1 h2 _=>Vo hG h1 h2) h)⟩
 simp only [List.mem_cons,List.not_mem_nil,or_false] at hc;subst hc;exact Bs hG hk
theorem ll{k:Nat}(hk:k<2):(oU k).wf=true/\(oU k).Ok PR G gh:=by
 have h:=two (p:=fun k=>vq k=true) YR YH hk
 simp only [vq,Bool.and_eq_true] at h
 exact ⟨h.2,bA ⟨bO.nil,fun l hl=>by
  simp only [List.mem_cons,List.not_mem_nil,or_false] at hl;subst hl;exact Ys hG hk⟩ h.1⟩
end
abbrev pgT:TypeId:=150
abbrev u8T:TypeId:=5
abbrev aa6:TypeId:=3
def nlE(coh:Bool):IE:=match coh with
 |true=> .fn 37 (.lit 6) (.lit 1) (.lit 0)
 |false=> .fn 37 (.lit 6) (.lit 0) (.lit 0)
def yU(coh:Bool):List ab:=[.ptr (some (2,0)),lP coh 2,.bool (.lit false),.bool (.lit false),.ptr (some (2,0)),lP coh 2,.int .i64 (.lit 0)]
def gZ(coh:Bool):List ab:=yU coh++(yU coh++(yU coh++(yU coh++(yU coh++yU coh))))
def st0:List ab:=aW.map fun k=> .int k (.lit 0)
def hdP(coh:Bool)(l:List ab):List ab:= .slice (some (1,0)) 6 6 0:: .bool (.lit coh)::l
def Ax(coh:Bool):Con:={g:=89,args:=[.int .i64 (.lit 6),.bool (.lit coh)],res:=pm,os':=[.ghost 0 [nlE coh] .nil]}
def Hy(coh:Bool):Con:={Ax coh with os':=[.cells (aX (hdP coh []) 0) 94 true 2,.cells (aX (gZ coh) 0) slT true 42,.cells (gC .u8 256) pgT true 256]}
def zQ:Con:={g:=47,args:=[.int .i64 (.lit 6)],res:=pm,os':=[.ghost 1 [nlE false] (aX st0 2)]}
def Xw:Con:={zQ with os':=[.cells (aX (hdP false st0) 0) 96 true 26,.cells (aX (gZ false) 0) slT true 42,.cells (gC .u8 256) pgT true 256]}
theorem F7:(fq (Hy true) ⟨[],[]⟩ 20 12 12&&(fq (Hy false) ⟨[],[]⟩ 20 12 12&&fq Xw ⟨[],[]⟩ 20 12 12))=true:=by kernel_rfl
def Sr(l:List ab):ah:= .cells (aX (.ptr (some (1,0))::l) 0) 172 true 25
def Fk:Con:={g:=86,args:=[.int .i64 (.lit 6)],res:=pm,os':=[Sr st0,.ghost 0 [nlE true] .nil]}
def JV:Bool:=fq Fk ⟨[Ax true],[]⟩ 20 12 12&&((Ax true).wf&&((Ax false).wf&&(zQ.wf&&Fk.wf)))
theorem OA:JV=true:=by kernel_rfl
def hdR(coh:Bool):T ab:=(((T.nil.set 0 (.slice (some (1,0)) 1536 1536 0)).set 1 (acp 6 coh)).set 4 (.slice (some (2,0)) 6 6 0)).set 5 (.bool (.lit coh))
def DC(coh:Bool):Con:={g:=82,args:=[.int .i64 (.lit 6),.bool (.lit coh)],res:=pm,os':=[.ghost 2 [nlE coh] .nil]}
def GX(coh:Bool):Con:={DC coh with os':= .cells (hdR coh) rfT true 6::mT u8T aa6 6 coh}
theorem Pp:(fq (GX true) ⟨[],[]⟩ 20 12 12&&fq (GX false) ⟨[],[]⟩ 20 12 12)=true:=by kernel_rfl
section
variable{G:Nat->Int->Int->Int->Int}(hG:cX G)
include hG
theorem wc{GH:Nat->bz}(coh:Bool)(ρ:Env)(h1:ρ.std G GH):(nlE coh).ev ρ=jT (6:Nat) (b2 coh):=by
 cases coh
 ·show fnI ρ 37 6 0 0=_;rw [cj hG h1 (by decide) (by decide)]
  rfl
 ·show fnI ρ 37 6 1 0=_;rw [cj hG h1 (by decide) (by decide)]
  rfl
omit hG in
theorem FZ(coh:Bool): ∀p,p<6->(aX (gZ coh) 0).get (p*7)=some (.ptr (some (2,0)))/\(aX (gZ coh) 0).get (p*7+1)=some (lP coh 2)/\(aX (gZ coh) 0).get (p*7+2)=some (.bool (.lit false))/\(aX (gZ coh) 0).get (p*7+3)=some (.bool (.lit false))/\(aX (gZ coh) 0).get (p*7+6)=some (.int .i64 (.lit 0)):=by
 have g: ∀(i:Nat) (v:ab),(gZ coh)[i]? =some v->(aX (gZ coh) 0).get i=some v:=fun i v h=>by
  have:=aU (gZ coh) 0 i .nil v h (by simp [gZ,yU])
  rwa [Nat.zero_add] at this
 intro p hp
 match p,hp with
 |0,_=>exact ⟨g _ _ rfl,g _ _ rfl,g _ _ rfl,g _ _ rfl,g _ _ rfl⟩
 |1,_=>exact ⟨g _ _ rfl,g _ _ rfl,g _ _ rfl,g _ _ rfl,g _ _ rfl⟩
 |2,_=>exact ⟨g _ _ rfl,g _ _ rfl,g _ _ rfl,g _ _ rfl,g _ _ rfl⟩
 |3,_=>exact ⟨g _ _ rfl,g _ _ rfl,g _ _ rfl,g _ _ rfl,g _ _ rfl⟩
 |4,_=>exact ⟨g _ _ rfl,g _ _ rfl,g _ _ rfl,g _ _ rfl,g _ _ rfl⟩
 |5,_=>exact ⟨g _ _ rfl,g _ _ rfl,g _ _ rfl,g _ _ rfl,g _ _ rfl⟩
theorem QA(coh:Bool):(Ax coh).Ok PR G gh:=by
 have h:=F7;simp only [Bool.and_eq_true] at h
 have hr:fq (Hy coh) ⟨[],[]⟩ 20 12 12=true:=by
  cases coh
  ·exact h.2.1
  ·exact h.1
 exact Con.KN (c:=Ax coh) (k:=0) (n:=6) (coh:=coh) (hc:=aX (hdP coh []) 0) (cv:= .nil) (sc:=aX (gZ coh) 0) (top:=2) (tops:=42) (Me:=nlE coh) ⟨by decide,by decide⟩ rfl rfl rfl rfl (fun ρ h1=>wc hG coh ρ h1) (aU (hdP coh []) 0 0 .nil _ rfl (by simp [hdP])) (aU (hdP coh []) 0 1 .nil _ rfl (by simp [hdP])) (fun j v hv=>by rw [T.get_nil] at hv; cases hv) (FZ coh) (bA bc hr)
theorem EG:zQ.Ok PR G gh:=by
 have h:=F7;simp only [Bool.and_eq_true] at h;refine Con.KN (c:=zQ) (k:=1) (n:=6) (coh:=false) (hc:=aX (hdP false st0) 0) (cv:=aX st0 2) (sc:=aX (gZ false) 0) (top:=26) (tops:=42) (Me:=nlE false) ⟨by decide,by decide⟩ rfl rfl rfl rfl (fun ρ h1=>wc hG false ρ h1) (aU (hdP false st0) 0 0 .nil _ rfl (by decide)) (aU (hdP false st0) 0 1 .nil _ rfl (by decide)) (fun j v hv=> ?_) (FZ false) (bA bc h.2.2)
 rcases eK _ _ _ _ _ hv with ⟨h2,hv⟩ |hv
 ·obtain ⟨i,rfl⟩: ∃i,j=2+i:=⟨j-2,by omega⟩
  rw [Nat.add_sub_cancel_left] at hv;refine ⟨h2,?_,?_⟩
  ·have:=aU (hdP false st0) 0 (2+i) .nil v (by rw [Nat.add_comm]; exact hv) (by decide)
   rwa [Nat.zero_add] at this
  ·have hm:=List.mem_of_getElem? hv;unfold st0 at hm;obtain ⟨k,_,rfl⟩:=List.mem_map.1 hm;cases k<;>rfl
 ·rw [T.get_nil] at hv; cases hv
theorem E3:Fk.Ok PR G gh:=by
 have h:=OA;simp only [JV,Bool.and_eq_true] at h;refine bA ⟨fun c hc=> ?_,fun _ h=>by cases h⟩ h.1
 simp only [List.mem_cons,List.not_mem_nil,or_false] at hc;subst hc;exact ⟨h.2.1,QA hG true⟩
theorem Et(coh:Bool):(DC coh).Ok PR G gh:=by
 have h:=Pp;simp only [Bool.and_eq_true] at h
 have hr:fq (GX coh) ⟨[],[]⟩ 20 12 12=true:=by
  cases coh
  ·exact h.2
  ·exact h.1
 have g0: ∀ {t:T ab} {j k:Nat} {x:ab},k<100->j≠k->(t.set k x).get j=t.get j:=fun hk hj=>T.bp (by omega) hj
 have g1: ∀ {t:T ab} {k:Nat} {x:ab},k<100->(t.set k x).get k=some x:=fun hk=>T.cu (by omega)
 refine Con.SC (c:=DC coh) (k:=2) (n:=6) (coh:=coh) (hc:=hdR coh) (top:=6) (Me:=nlE coh) ⟨by decide,by decide⟩ rfl rfl rfl rfl (fun ρ h1=>wc hG coh ρ h1) ?_ ?_ ?_ ?_ (bA bc hr)
 ·unfold hdR;rw [g0 (by decide) (by decide),g0 (by decide) (by decide),g0 (by decide) (by decide),g1 (by decide)]
 ·unfold hdR;rw [g0 (by decide) (by decide),g1 (by decide)]
 ·unfold hdR;rw [g1 (by decide)]
 ·unfold hdR;rw [g0 (by decide) (by decide),g0 (by decide) (by decide),g1 (by decide)]
end
def v6:IE:= .var 6
def pdE(D i:IE):IE:= .fn 39 D (.fn 9 (.var 1) (.fn 9 (.var 4) dW (.lit 0)) (.lit 0)) (.fn 9 i (.var 5) (.lit 0))
def Ml(coh:Bool):Con:={g:=56,args:=[pm,uV .u32 1,.strS (.var 4) (.var 5),.int .i64 (.var 7)],os:=fw rfT coh v6 d16 d15,bds:=[bC 1,i6B 5,i6B 7],pre:=(.lt (.var 5) (.var 7),false)::nr coh,res:= .tuple [],os':=fw rfT coh (pdE v6 (.var 7)) d16 d15}
def lRo(coh:Bool):ba:={con:=Ml coh,key:=2,n:=33,sl:=[0,1,2,6],e:= .exit 0,sl':=[]}
def tRo(coh:Bool):Out:=(lRo coh).tree PR ⟨[],[]⟩ 20 aG no' 12 [] μPo
def adP:IE:= .wrap .u32 (.add (.var 1) (.var 7))
def pdN:IE:=pdE (.sel true adP dW (.fn 1 v6 adP (.wrap .u8 (.fn 0 (.var 4) (.var 7) (.lit 0)))) v6) (.add (.var 7) (.lit 1))
def Xa:List (Dec×IE×IE):=[([(.lt (.var 7) (.var 5),false)],pdE v6 (.var 7),v6),([(.lt (.var 7) (.var 5),true)],pdE v6 (.var 7),pdN)]
def Vm(coh:Bool):Bool:=(tRo coh).all ((Ml coh).leaf (qX (bdL (Ml coh).bds) 12 Xa)) (Ml coh).pre&&(Ml coh).wf
theorem Xt:(Vm true&&Vm false)=true:=by kernel_rfl
def oW:Con:=Jc 56 [uV .u32 1,.strS (.var 4) (.var 5)] [bC 1,i6B 5] (.tuple []) (poE (.var 0) (.lit 0))
def Pj(coh:Bool):Bool:=((sR oW rfT coh (pdE d14 (.lit 0)) d16 d15).tree PR ⟨[],[lRo coh]⟩ 20 aG no' 12 []).all ((sR oW rfT coh (pdE d14 (.lit 0)) d16 d15).leaf (qX (bdL oW.bds) 12 [])) (nr coh++oW.pre)
theorem LI:(Pj true&&(Pj false&&oW.wf))=true:=by kernel_rfl
def yj:Con:=Jc 32 [uV .i64 1,uV .i64 2] [(1,0,9223372036854775807),eY 2] (.tuple []) prM
def YB:IE:= .sel true (.var 1) nE (.fn 1 d16 (.var 1) r7E) d16
def KY(coh:Bool):Bool:=gV yj [] [] [] coh d14 YB d15
theorem Nr:(KY true&&(KY false&&yj.wf))=true:=by kernel_rfl
section
variable{G:Nat->Int->Int->Int->Int}(hG:cX G)
include hG
theorem AU{ρ:Env}(h1:ρ.std G gh)(D i:IE):(pdE D i).ev ρ=poD (D.ev ρ) (ρ.i 1) (ρ.i 4) (dW.ev ρ) (i.ev ρ).toNat ((ρ.i 5).toNat-(i.ev ρ).toNat):=by
 show fnI ρ 39 (D.ev ρ) ((IE.fn 9 (.var 1) (.fn 9 (.var 4) dW (.lit 0)) (.lit 0)).ev ρ) ((IE.fn 9 i (.var 5) (.lit 0)).ev ρ)=_;rw [cj hG h1 (by decide) (by decide),jd hG h1,jd hG h1,jd hG h1]
 show poD _ (unpI (cG (ρ.i 1) (cG (ρ.i 4) (dW.ev ρ)))).1 (unpI (unpI (cG (ρ.i 1) (cG (ρ.i 4) (dW.ev ρ)))).2).1 (unpI (unpI (cG (ρ.i 1) (cG (ρ.i 4) (dW.ev ρ)))).2).2 (unpI (cG (i.ev ρ) (ρ.i 5))).1.toNat ((unpI (cG (i.ev ρ) (ρ.i 5))).2.toNat-(unpI (cG (i.ev ρ) (ρ.i 5))).1.toNat)=_;rw [dK,dK,dK]
theorem SU{ρ:Env}(h1:ρ.std G gh)(h2:ρ.ok (bdL [bC 1,i6B 5,i6B 7])):fC ρ Xa:=by
 have h7:=h2 7 0 1000000 rfl;have h5:=h2 5 0 1000000 rfl;refine cM (fun hd=> ?_) (cM (fun hd=> ?_) ct)
 ·have hd:decide (ρ.i 7<ρ.i 5)=false:=hd (.lt (.var 7) (.var 5),false) (by simp)
  have hd:=of_decide_eq_false hd;rw [AU hG h1];show poD (ρ.i 6) _ _ _ (ρ.i 7).toNat ((ρ.i 5).toNat-(ρ.i 7).toNat)=ρ.i 6;rw [show (ρ.i 5).toNat-(ρ.i 7).toNat=0 by omega]
  rfl
 ·have hd:decide (ρ.i 7<ρ.i 5)=true:=hd (.lt (.var 7) (.var 5),true) (by simp)
  have hd:=of_decide_eq_true hd;rw [AU hG h1,pdN,AU hG h1];obtain ⟨i,hi⟩:=Int.eq_ofNat_of_zero_le h7.1;have e0:(IE.var 7).ev ρ=(i:Int):=hi;have e1:(IE.add (.var 7) (.lit 1)).ev ρ=((i+1:Nat):Int):=by show ρ.i 7+1=_; rw [hi]; rfl
  have e2:(IE.sel true adP dW (.fn 1 v6 adP (.wrap .u8 (.fn 0 (.var 4) (.var 7) (.lit 0)))) v6).ev ρ=if ad (ρ.i 1) i<dW.ev ρ then aD (ρ.i 6) (ad (ρ.i 1) i) (IntKind.u8.wrap (ag (ρ.i 4) i)) else ρ.i 6:=by
   show aA true (IntKind.u32.wrap (ρ.i 1+ρ.i 7)) (dW.ev ρ) (aD (ρ.i 6) (IntKind.u32.wrap (ρ.i 1+ρ.i 7)) (IntKind.u8.wrap (ag (ρ.i 4) (ρ.i 7)))) (ρ.i 6)=_;rw [ET,hi];rfl
  rw [e0,e1,e2,Int.toNat_natCast,Int.toNat_natCast];obtain ⟨k,hk⟩: ∃k,(ρ.i 5).toNat-i=k+1:=⟨(ρ.i 5).toNat-i-1,by omega⟩
  rw [hk,show (ρ.i 5).toNat-(i+1)=k by omega]
  rfl
theorem XO(coh:Bool):(Ml coh).wf=true/\(lRo coh).Ok PR G gh:=by
 have h0:=Xt;simp only [Bool.and_eq_true] at h0
 have h:Vm coh=true:=by
  cases coh
  ·exact h0.2
  ·exact h0.1
 simp only [Vm,Bool.and_eq_true] at h;exact ⟨h.2,ba.f6 (c:=lRo coh) mixed (K:=⟨[],[]⟩) bc h.2 rfl (facts:=[]) (fun _ _ _ _=>aw) (Con.Ca [] (fun _ _ _ _=>aw) 12 Xa (fun ρ h1 h2 _=>SU hG h1 h2) h.1)⟩
omit hG in
theorem AY{M a d R C:Int}(ha: ∀i:Nat,0<=ad a i): ∀(k i:Nat) (Mk D:Int),bN M Mk D R C->bN M (poF Mk a d i k) (poD D a d (mN M*256) i k) R C:=by
 intro k
 induction k with
 |zero=>intro i Mk D h; exact h
 |succ k ih=>
  intro i Mk D h;show bN M (poF (stS Mk (ad a i) (IntKind.u8.wrap (ag d i))) a d (i+1) k) (poD (if ad a i<mN M*256 then aD D (ad a i) (IntKind.u8.wrap (ag d i)) else D) a d (mN M*256) (i+1) k) R C
  refine ih (i+1) _ _ ?_
  by_cases hin:ad a i<mN M*256
  ·rw [if_pos hin];exact Jx h (ha i) (decide_eq_true (by omega)) (eJ _)
  ·rw [if_neg hin]
   have:inM Mk (ad a i)=false:=by
    unfold inM;rw [h.n];exact decide_eq_false (by omega)
   unfold stS;rw [this];exact h
theorem Fb:oW.wf=true/\oW.Ok PR G gh:=by
 have h:=LI;simp only [Bool.and_eq_true] at h;refine ⟨h.2.2,ry (el:=rfT) (k:=2) (c:=oW) (Me':=poE (.var 0) (.lit 0)) rfl (cY hG) rfl rfl rfl rfl (fun coh ρ h1 h2 h3 hm hc=>⟨pdE d14 (.lit 0),d16,d15,?_,?_⟩)⟩
 ·have kn:Know.Ok PR G gh ⟨[],[lRo coh]⟩:=⟨bO.nil,fun c hc=>by
   rw [List.mem_singleton.1 hc];exact XO hG coh⟩
  refine Con.jJ (k:=12) (L:=20) (pol:=aG) (pure:=no') (d:=12) (facts:=[]) (obs:=[]) mixed (K:=⟨[],[lRo coh]⟩) kn h1 h2 h3 aw (fun _ ho=>by cases ho) ?_
  cases coh
  ·exact h.2.1
  ·exact h.1
 ·obtain ⟨e14,e15,e16⟩:=qa hG h1;rw [Da hG h1,AU hG h1,e14,e15,e16];exact AY (fun i=>(D1 _ _).1) _ 0 _ _ (bN.refl hm)
omit hG in
theorem KC{M r:Int}{p:Nat}(hm:bn M)(hp:p<(mN M).toNat)(hr:0<=r/\r<=7):bN M (aD M ((4*p+2:Nat):Int) r) (gN M) (aD (qe M) (p:Nat) r) (ql M):=by
 have hb:isByte r:=⟨hr.1,by omega⟩
 have g: ∀j:Nat,ag (aD M ((4*p+2:Nat):Int) r) (j:Nat)=if j=4*p+2 then r else ag M j:=fun j=>cF hb
 have eN:mN (aD M ((4*p+2:Nat):Int) r)=mN M:=by
  show ag _ ((3:Nat):Int)=_;rw [g,if_neg (by omega)]; rfl
 have eC:aP (aD M ((4*p+2:Nat):Int) r)=aP M:=by
  unfold aP;rw [g,if_neg (by omega)]
 have eD: ∀j,mD (aD M ((4*p+2:Nat):Int) r) j=mD M j:=fun j=>by
  unfold mD;rw [g,if_neg (by omega)]
 have eI: ∀j,mC (aD M ((4*p+2:Nat):Int) r) j=mC M j:=fun j=>by
  unfold mC;rw [g,if_neg (by omega)]
 have eR: ∀j,mR (aD M ((4*p+2:Nat):Int) r) j=if j=p then r else mR M j:=fun j=>by
  unfold mR;rw [g]
  by_cases hj:j=p
  ·rw [if_pos hj,if_pos (by omega)]
  ·rw [if_neg hj,if_neg (by omega)]
 refine ⟨⟨by rw [eN]; exact hm.n,fun q j hq hj=> ?_,fun hc q j hq hj=> ?_,fun q hq=> ?_,hm.k.set (.inr (.inr (.inr ⟨p,hp,rfl⟩))) (by omega) (by omega)⟩,eN,eC,fun j hj=> ?_,fun j hj=> ?_,fun _ j hj=> ?_⟩
 ·rw [eN] at hq;rw [eD];exact hm.d q j hq hj
 ·rw [eN] at hq;rw [eC] at hc;rw [eI];exact hm.c hc q j hq hj
 ·rw [eN] at hq;rw [eR];split
  ·exact hr
  ·exact hm.r q hq
 ·rw [eD,dv hj]
 ·rw [eR,cF hb];split
  ·rfl
  ·exact (fK hj).symm
 ·rw [eI,fg hj]
theorem EJ:yj.wf=true/\yj.Ok PR G gh:=by
 have h:=Nr;simp only [Bool.and_eq_true] at h;refine ⟨h.2.2,ry (el:=rfT) (k:=2) (c:=yj) (Me':=prM) rfl (cY hG) rfl rfl rfl rfl (fun coh ρ h1 h2 h3 hm hc=>⟨d14,YB,d15,?_,?_⟩)⟩
 ·refine Con.jJ (k:=12) (L:=300) (pol:=aG) (pure:=no') (d:=12) (facts:=[]) (obs:=[]) mixed (K:=⟨[],[]⟩) bc h1 h2 h3 aw (fun _ ho=>by cases ho) ?_
  cases coh
  ·exact h.2.1
  ·exact h.1
 ·obtain ⟨e14,e15,e16⟩:=qa hG h1;have h10:0<=ρ.i 1:=(h2 1 0 _ rfl).1;obtain ⟨p,hp⟩:=Int.eq_ofNat_of_zero_le h10
  have e:prM.ev ρ=prS (ρ.i 0) (ρ.i 1) (ρ.i 2):=by
   show fnI ρ 31 (ρ.i 0) (ρ.i 1) (ρ.i 2)=_;rw [cj hG h1 (by decide) (by decide)]
   rfl
  have e2:YB.ev ρ=if ρ.i 1<mN (ρ.i 0) then aD (d16.ev ρ) (ρ.i 1) (aN .and .i64 (ρ.i 2) 7) else d16.ev ρ:=by
   show aA true (ρ.i 1) (nE.ev ρ) (aD (d16.ev ρ) (ρ.i 1) (aN .and .i64 (ρ.i 2) 7)) (d16.ev ρ)=_;rw [ET];rfl
  rw [e,e2,e14,e15,e16];unfold prS
  by_cases hin:ρ.i 1<mN (ρ.i 0)
  ·rw [if_pos ⟨h10,hin⟩,if_pos hin,hp,show ((p:Int)*4+2)=((4*p+2:Nat):Int) by omega]
   exact KC hm (by omega) (tI .i64 (ρ.i 2) 7 (by decide))
  ·rw [if_neg (fun h=>hin h.2),if_neg hin]
   exact bN.refl hm
end
def scM:IE:= .fn 34 (.var 0) (.var 1) (.fn 9 (.var 4) (.lit 256) (.lit 0))
def scL:List IE:=(List.range 256).map fun j=> .wrap .u8 (.fn 0 (.var 4) (.lit (.ofNat j)) (.lit 0))
def scC(b:IE):IE:=nb scL 0 b
def oV(k:Nat):Con:=rp k 48 [uV .i64 1,.strS (.var 4) (.lit 256)] [(1,0,9223372036854775807)] (.tuple []) scM
def Wr.Oh(k:Nat)(pe:IE):Wr:=⟨fun coh od oc=>match coh,oc with
 |true,_=>lT (gK k) slT true od oc pe
 |false,true=>[.cells (jy false) (gK k) false 2,.win pe 7 (bu 2 3 false od true (rE pe)) slT true,.arr [.u8] (pD pe) (.lit 256) od,.arr [.u8] (scC (pC pe)) (.lit 256) true]
 |false,false=>[.cells (jy false) (gK k) false 2,.win pe 7 (bu 2 4 false od true (rE pe)) slT true,.arr [.u8] (pD pe) (.lit 256) od,.arr [.u8] (pC pe) (.lit 256) false,.arr [.u8] (scC (cp (pC pe))) (.lit 256) true],
 fun coh od oc=>match coh,oc with
 |true,_=>{od:=od,oc:=oc,d:=pD pe,c:=pC pe,r:=rE pe}
 |false,true=>{j:=3,od:=od,oc:=true,d:=pD pe,c:=scC (pC pe),r:=rE pe}
 |false,false=>{j:=4,od:=od,oc:=true,d:=pD pe,c:=scC (cp (pC pe)),r:=rE pe}⟩
theorem DW(k:Nat)(pe:IE):te k pe (Wr.Oh k pe):=by
 intro coh od oc;cases coh<;>cases od<;>cases oc<;>exact ⟨rfl,rfl,fun h=>by first | (cases h; done) |rfl,by first |exact (show 3<=1000 by decide) |exact (show 4<=1000 by decide) |exact (show 5<=1000 by decide),by first |exact .inl rfl |exact .inr ⟨rfl,rfl⟩,fun _=>by first |exact .inl rfl |exact .inr ⟨rfl,rfl⟩,fun h=>by first | (cases h; done) |exact (show (2:Nat)≠3 by decide) |exact (show (2:Nat)≠4 by decide)⟩
theorem YM:dz (oV 0) 0 (.var 1) [] [] [] (Wr.Oh 0 (.var 1))=true:=by kernel_rfl
theorem aai:dz (oV 1) 1 (.var 1) [] [] [] (Wr.Oh 1 (.var 1))=true:=by kernel_rfl
def tM(k:Nat):Con:=rp k 90 [] [] (.int .i64 nE)
def rJ(k:Nat)(coh:Bool):Bool:=fq (tV (tM k) (gK k) slT coh) ⟨[],[]⟩ 20 12 12
theorem NU:((rJ 0 true&&rJ 0 false)&&(rJ 1 true&&rJ 1 false))=true:=by kernel_rfl
def qk:Con:=Jc 62 [] [] (.int .i64 nE)
theorem wt:((gV qk [] [] [] true d14 d16 d15&&gV qk [] [] [] false d14 d16 d15)&&((tM 0).wf&&((tM 1).wf&&(qk.wf&&((oV 0).wf&&(oV 1).wf)))))=true:=by kernel_rfl
section
variable{G:Nat->Int->Int->Int->Int}(hG:cX G)
include hG
theorem Qb{ρ:Env}(h1:ρ.std G gh):scM.ev ρ=scS (ρ.i 0) (ρ.i 1) (ρ.i 4) 256:=by
 show fnI ρ 34 (ρ.i 0) (ρ.i 1) ((IE.fn 9 (.var 4) (.lit 256) (.lit 0)).ev ρ)=_;rw [cj hG h1 (by decide) (by decide),jd hG h1]
 show scS _ _ (unpI (cG (ρ.i 4) 256)).1 (unpI (cG (ρ.i 4) 256)).2=_;rw [dK]
omit hG in
theorem Ta{ρ:Env}(b:IE)(j:Nat)(hj:j<256):ag ((scC b).ev ρ) j=IntKind.u8.wrap (ag (ρ.i 4) j):=by
 have hL:scL[j]? =some (.wrap .u8 (.fn 0 (.var 4) (.lit (.ofNat j)) (.lit 0))):=by
  unfold scL;rw [List.getElem?_map,List.getElem?_range hj];rfl
 have:=pS (ρ:=ρ) scL 0 b (fun e he=> ?_) j _ hL
 ·rw [Nat.zero_add] at this;exact this
 ·unfold scL at he;obtain ⟨i,_,rfl⟩:=List.mem_map.1 he;have:=eJ (ag (ρ.i 4) i);show fE (IntKind.u8.wrap (ag (ρ.i 4) i));obtain ⟨a,b⟩:=this;unfold fE;omega
theorem EW{k:Nat}(hk:k<2):(oV k).Ok PR G gh:=by
 have pos: ∀ {ρ:Env},ρ.ok (bdL [(1,0,9223372036854775807)])->0<=ρ.i 1:=fun {ρ} h=>(h 1 0 _ rfl).1
 refine nQ (c:=oV k) hG hk rfl rfl rfl rfl (.var 1) [] bO.nil [] [] (Wr.Oh k (.var 1)) (DW k _) (fun ρ h2 h3=>pos h2) (fun ρ h1 h2 h3 hin=>ct) (fun ρ h1 h2 h3 hin=>ct) (fun ρ h1 h2 h3 hm hin=> ?_) (fun coh od oc ρ h1 h2 h3 hm hc p hp hlt=> ?_) (two (p:=fun k=>dz (oV k) k (.var 1) [] [] [] (Wr.Oh k (.var 1))=true) YM aai hk)
 ·rw [Qb hG h1];unfold scS;rw [if_neg (fun h=>by have:mN (ρ.i 0)<=ρ.i 1:=hin; omega)]
 ·rw [Qb hG h1];have hp':ρ.i 1=p:=hp;unfold scS;cases coh
  ·rw [if_pos ⟨⟨pos h2,by omega⟩,hc⟩,hp',Int.toNat_natCast]
   show b8 (ρ.i 0) (fP (ρ.i 0) (ixC p) (fun j=>IntKind.u8.wrap (ag (ρ.i 4) j)) 256) p _ _ _
   have key: ∀b:IE,b8 (ρ.i 0) (fP (ρ.i 0) (ixC p) (fun j=>IntKind.u8.wrap (ag (ρ.i 4) j)) 256) p (pgD (ρ.i 0) p) ((scC b).ev ρ) (mR (ρ.i 0) p):=fun b=>
    lJ hm hc hlt (fun j=>by have:=eJ (ag (ρ.i 4) j); obtain ⟨a,b⟩:=this; unfold fE; omega) (Nat.le_refl _) fun j hj=>by
     rw [if_pos hj];exact Ta b j hj
   cases oc
   ·show b8 _ _ p ((pD (.var 1)).ev ρ) ((scC (cp (pC (.var 1)))).ev ρ) ((rE (.var 1)).ev ρ);rw [uO hG h1 hp,oY hp (hm.r p hlt)];exact key _
   ·show b8 _ _ p ((pD (.var 1)).ev ρ) ((scC (pC (.var 1))).ev ρ) ((rE (.var 1)).ev ρ);rw [uO hG h1 hp,oY hp (hm.r p hlt)];exact key _
  ·rw [if_neg (fun h=>by rw [hc] at h; exact absurd h.2 (by decide))]
   show b8 (ρ.i 0) (ρ.i 0) p ((pD (.var 1)).ev ρ) ((pC (.var 1)).ev ρ) ((rE (.var 1)).ev ρ);rw [uO hG h1 hp,DE hG h1 hp,oY hp (hm.r p hlt)];exact b8.refl hm hlt
omit hG in
theorem MB{k:Nat}(hk:k<2):(tM k).Ok PR G gh:=by
 have h:=NU;simp only [Bool.and_eq_true] at h;refine Lo (k:=k) (cv:=mu k) (iW hk) rfl rfl rfl rfl fun coh=>bA (L:=20) (d:=12) (k:=12) bc ?_
 match k,hk with
 |0,_=>cases coh; exact h.1.2; exact h.1.1
 |1,_=>cases coh; exact h.2.2; exact h.2.1
theorem LK:qk.Ok PR G gh:=by
 have h:=wt;simp only [Bool.and_eq_true] at h;refine ry (el:=rfT) (k:=2) (c:=qk) (Me':= .var 0) rfl (cY hG) rfl rfl rfl rfl (fun coh ρ h1 h2 h3 hm hc=>⟨d14,d16,d15,?_,?_⟩)
 ·refine Con.jJ (k:=12) (L:=300) (pol:=aG) (pure:=no') (d:=12) (facts:=[]) (obs:=[]) mixed (K:=⟨[],[]⟩) bc h1 h2 h3 aw (fun _ ho=>by cases ho) ?_
  cases coh
  ·exact h.1.2
  ·exact h.1.1
 ·obtain ⟨e14,e15,e16⟩:=qa hG h1;rw [e14,e15,e16];exact bN.refl hm
end
theorem Qx{a i:Nat}(h:a+i<4294967296):ad (a:Nat) (i:Nat)=((a+i:Nat):Int):=by
 unfold ad;have:IntKind.u32.wrap ((a:Int)+(i:Int))=(a:Int)+(i:Int):=bI .u32 _ (by simp only [kLo]; omega) (by simp only [kHi]; omega)
 rw [this];omega
theorem JB{d N:Int}{a:Nat}: ∀(k i:Nat) (D:Int),(a+(i+k)<4294967296)->((a+(i+k):Nat):Int)<=N-> ∀j:Nat,ag (poD D a d N i k) j=if a+i<=j/\j<a+(i+k) then IntKind.u8.wrap (ag d ((j-a:Nat):Int)) else ag D j:=by
 intro k
 induction k with
 |zero=>
  intro i D h1 h2 j;rw [if_neg (by omega)]
  rfl
 |succ k ih=>
  intro i D h1 h2 j;show ag (poD (if ad a i<N then aD D (ad a i) (IntKind.u8.wrap (ag d i)) else D) a d N (i+1) k) j=_
  rw [Qx (by omega),if_pos (by omega),ih (i+1) _ (by omega) (by omega),cF (eJ _)]
  by_cases h:j=a+i
  ·subst h;rw [if_neg (by omega),if_pos rfl,if_pos (by omega),show a+i-a=i by omega]
  ·by_cases h':a+(i+1)<=j/\j<a+(i+1+k)
   ·rw [if_pos h',if_pos (by omega)]
   ·rw [if_neg h',if_neg h,if_neg (by omega)]
structure Filled (M Mk:Int) (p:Nat):Prop where
 ok:bn Mk
 n:mN Mk=mN M
 coh:aP Mk=aP M
 d: ∀a,a<256*(mN M).toNat->mD Mk a=if a<256*p then mD M a else 0
 c:aP M=false-> ∀a,a<256*(mN M).toNat->mC Mk a=if a<256*p then mC M a else 0
 r: ∀q,q<(mN M).toNat->mR Mk q=if q<p then mR M q else 0
theorem uQ{M Mk row:Int}{p:Nat}(h:Filled M Mk p)(hm:bn M)(hp:p<(mN M).toNat)(hrow: ∀j,j<256->ag row (j:Nat)=mD M (256*p+j)):bn (poF Mk (256*p:Nat) row 0 256)/\mN (poF Mk (256*p:Nat) row 0 256)=mN M/\aP (poF Mk (256*p:Nat) row 0 256)=aP M/\
 (∀ a,a<256*(mN M).toNat->mD (poF Mk (256*p:Nat) row 0 256) a=if a<256*(p+1) then mD M a else 0)/\(aP M=false-> ∀a,a<256*(mN M).toNat->mC (poF Mk (256*p:Nat) row 0 256) a=if a<256*p then mC M a else 0)/\ ∀q,q<(mN M).toNat->mR (poF Mk (256*p:Nat) row 0 256) q=if q<p then mR M q else 0:=by
 have hn:=hm.n;have x:=AY (a:=(256*p:Nat)) (d:=row) (fun i=>(D1 _ _).1) 256 0 Mk (gN Mk) (bN.refl h.ok)
 generalize poF Mk (256*p:Nat) row 0 256=M' at*;have eN:(mN Mk).toNat=(mN M).toNat:=by rw [h.n]
 refine ⟨x.ok,x.n.trans h.n,x.coh.trans h.coh,fun a ha=> ?_,fun hc a ha=> ?_,fun q hq=> ?_⟩
 ·rw [x.d a (by rw [eN]; exact ha),JB 256 0 _ (by omega) (by rw [h.n]; omega) a]
  by_cases h1:256*p+0<=a/\a<256*p+(0+256)
  ·rw [if_pos h1,if_pos (by omega),hrow (a-256*p) (by omega),show 256*p+(a-256*p)=a by omega]
   exact cZ (hm.byte ha).1
  ·rw [if_neg h1,dv (by rw [eN]; exact ha),h.d a ha]
   by_cases h2:a<256*p
   ·rw [if_pos h2,if_pos (by omega)]
   ·rw [if_neg h2,if_neg (by omega)]
 ·rw [x.c (by rw [h.coh]; exact hc) a (by rw [eN]; exact ha),fg (by rw [eN]; exact ha),h.c hc a ha]
 ·rw [x.r q (by rw [eN]; exact hq),fK (by rw [eN]; exact hq),h.r q hq]
theorem Wp{r:Int}(h:0<=r/\r<=7):aN .and .i64 r 7=r:=by
 obtain ⟨n,rfl⟩:=Int.eq_ofNat_of_zero_le h.1
 match n,h.2 with
 |0,_=>decide
 |1,_=>decide
 |2,_=>decide
 |3,_=>decide
 |4,_=>decide
 |5,_=>decide
 |6,_=>decide
 |7,_=>decide
 |n+8,h=>exact absurd h (by omega)
theorem pz{M Mk:Int}{p:Nat}(ok:bn Mk)(n:mN Mk=mN M)(coh:aP Mk=aP M)(d: ∀a,a<256*(mN M).toNat->mD Mk a=if a<256*(p+1) then mD M a else 0)(c:aP M=false-> ∀a,a<256*(mN M).toNat->mC Mk a=if a<256*(p+1) then mC M a else 0)(r: ∀q,q<(mN M).toNat->mR Mk q=if q<p then mR M q else 0)
 (hm:bn M) (hp:p<(mN M).toNat):Filled M (prS Mk p (mR M p)) (p+1):=by
 have hr:=hm.r p hp;have eN:(mN Mk).toNat=(mN M).toNat:=by rw [n]
 have e:prS Mk p (mR M p)=aD Mk ((4*p+2:Nat):Int) (mR M p):=by
  unfold prS;rw [if_pos ⟨by omega,by rw [n]; omega⟩,Wp hr,show ((p:Int)*4+2)=((4*p+2:Nat):Int) by omega]
 rw [e];have x:=KC (r:=mR M p) ok (by rw [eN]; exact hp) hr
 generalize aD Mk ((4*p+2:Nat):Int) (mR M p)=M' at*;refine ⟨x.ok,x.n.trans n,x.coh.trans coh,fun a ha=> ?_,fun hc a ha=> ?_,fun q hq=> ?_⟩
 ·rw [x.d a (by rw [eN]; exact ha),dv (by rw [eN]; exact ha),d a ha]
 ·rw [x.c (by rw [coh]; exact hc) a (by rw [eN]; exact ha),fg (by rw [eN]; exact ha),c hc a ha]
 ·rw [x.r q (by rw [eN]; exact hq),cF ⟨hr.1,by omega⟩]
  by_cases h1:q=p
  ·subst h1;rw [if_pos rfl,if_pos (by omega)]
  ·rw [if_neg h1,fK (by rw [eN]; exact hq),r q hq]
   by_cases h2:q<p
   ·rw [if_pos h2,if_pos (by omega)]
   ·rw [if_neg h2,if_neg (by omega)]
theorem DA{M Mk row:Int}{p:Nat}(ok:bn Mk)(n:mN Mk=mN M)(coh:aP Mk=aP M)(hc:aP M=false)(d: ∀a,a<256*(mN M).toNat->mD Mk a=if a<256*(p+1) then mD M a else 0)(c: ∀a,a<256*(mN M).toNat->mC Mk a=if a<256*p then mC M a else 0)(r: ∀q,q<(mN M).toNat->mR Mk q=if q<p then mR M q else 0)
 (hm:bn M) (hp:p<(mN M).toNat) (hrow: ∀j,j<256->ag row (j:Nat)=mC M (256*p+j)):bn (scS Mk p row 256)/\mN (scS Mk p row 256)=mN M/\aP (scS Mk p row 256)=aP M/\
 (∀ a,a<256*(mN M).toNat->mD (scS Mk p row 256) a=if a<256*(p+1) then mD M a else 0)/\(∀ a,a<256*(mN M).toNat->mC (scS Mk p row 256) a=if a<256*(p+1) then mC M a else 0)/\ ∀q,q<(mN M).toNat->mR (scS Mk p row 256) q=if q<p then mR M q else 0:=by
 have eN:(mN Mk).toNat=(mN M).toNat:=by rw [n]
 have hcK:aP Mk=false:=coh.trans hc
 have e:scS Mk p row 256=fP Mk (ixC p) (fun j=>IntKind.u8.wrap (ag row j)) 256:=by
  unfold scS;rw [if_pos ⟨⟨by omega,by rw [n]; omega⟩,hcK⟩,Int.toNat_natCast]
  rfl
 rw [e]
 have bw: ∀j:Nat,fE (IntKind.u8.wrap (ag row j)):=fun j=>by
  have:=eJ (ag row j);obtain ⟨a,b⟩:=this;unfold fE;omega
 have x:=lJ (g:=fun j=>IntKind.u8.wrap (ag row j)) (n:=256) ok hcK (by rw [eN]; exact hp) bw (Nat.le_refl _) (C:=(rowOf ((List.range 256).map fun j=>IntKind.u8.wrap (ag row (j:Nat))):Nat)) fun j hj=>by
  rw [if_pos hj];exact cP _ j _ (by simp [hj]) (bw j)
 generalize fP Mk (ixC p) (fun j=>IntKind.u8.wrap (ag row j)) 256=M' at*
 have part: ∀a,a<256*(mN M).toNat->256*(a / 256)+a % 256=a/\a / 256<(mN M).toNat/\a % 256<256:=fun a ha=>⟨Nat.div_add_mod a 256,by omega,Nat.mod_lt _ (by decide)⟩
 have eD: ∀a,a<256*(mN M).toNat->mD M' a=mD Mk a:=fun a ha=>by
  obtain ⟨e1,e2,e3⟩:=part a ha;rw [<- e1]
  by_cases h:a / 256=p
  ·rw [h,x.d _ e3,fe _ _ _ e3]
  ·exact (x.other _ _ (by rw [eN]; exact e2) h e3).1
 have eC: ∀a,a<256*(mN M).toNat->mC M' a=if a / 256=p then mC M a else mC Mk a:=fun a ha=>by
  obtain ⟨e1,e2,e3⟩:=part a ha
  by_cases h:a / 256=p
  ·rw [if_pos h];have e4:256*p+a % 256=a:=by omega
   have:=x.c hcK (a % 256) e3;rw [e4] at this;rw [this,cP _ (a % 256) (IntKind.u8.wrap (ag row ((a % 256:Nat):Int))) (by simp [e3]) (bw _),hrow _ e3,e4]
   exact cZ ((hm.byte ha).2 hc)
  ·rw [if_neg h];have:=(x.other (a / 256) (a % 256) (by rw [eN]; exact e2) h e3).2 hcK
   rw [e1] at this;exact this
 have eR: ∀q,q<(mN M).toNat->mR M' q=mR Mk q:=fun q hq=>by
  by_cases h:q=p
  ·subst h; exact x.r.1
  ·exact x.rights q (by rw [eN]; exact hq) h
 have cV: ∀a,a<256*(mN M).toNat->mC M' a=if a<256*(p+1) then mC M a else 0:=fun a ha=>by
  rw [eC a ha,c a ha]
  by_cases h:a / 256=p
  ·rw [if_pos h,if_pos (by omega)]
  ·rw [if_neg h]
   by_cases h2:a<256*p
   ·rw [if_pos h2,if_pos (by omega)]
   ·rw [if_neg h2,if_neg (by omega)]
 have z:isByte 0:=⟨Int.le_refl 0,by decide⟩
 have nn:mN M'=mN M:=x.n.trans n;refine ⟨⟨by rw [nn]; exact hm.n,fun q j hq hj=> ?_,fun _ q j hq hj=> ?_,fun q hq=> ?_,x.k⟩,nn,x.coh.trans coh,fun a ha=>by rw [eD a ha,d a ha],cV,fun q hq=>by rw [eR q hq,r q hq]⟩
 ·rw [nn] at hq;rw [eD _ (by omega),d _ (by omega)]
  split
  ·exact hm.d q j hq hj
  ·exact z
 ·rw [nn] at hq;rw [cV _ (by omega)]
  split
  ·exact hm.c hc q j hq hj
  ·exact z
 ·rw [nn] at hq;rw [eR q hq,r q hq];split
  ·exact hm.r q hq
  ·exact ⟨Int.le_refl 0,by decide⟩
theorem rX{M:Int}(hn:mN M=6):Filled M (jT (6:Nat) (b2 (aP M))) 0:=by
 have n4:(0:Int)<=((6:Nat):Int)/\((6:Nat):Int)<=4096:=⟨by decide,by decide⟩
 have hb:=O0 (aP M);refine ⟨A9 n4 hb,by rw [sT n4 hb,hn]; rfl,by rw [Ct n4 hb]; exact Iy _,fun a _=> ?_,fun _ a _=> ?_,fun q _=> ?_⟩
 ·rw [(iV n4 hb a).1,if_neg (by omega)]
 ·rw [(iV n4 hb a).2.1,if_neg (by omega)]
 ·rw [(iV n4 hb q).2.2,if_neg (by omega)]
theorem yn{M Mk:Int}(h:Filled M Mk 6)(hm:bn M)(hn:mN M=6):Mk=M:=by
 have e:(mN M).toNat=6:=by rw [hn]; rfl
 refine hm.ext h.ok h.n h.coh (fun a ha=> ?_) (fun hc a ha=> ?_) fun p hp=> ?_
 ·rw [h.d a ha,if_pos (by omega)]
 ·rw [h.c hc a ha,if_pos (by omega)]
 ·rw [h.r p hp,if_pos (by omega)]
abbrev kPT:TypeId:=139
abbrev qPT:TypeId:=90
def n6:BE×Bool:=(.eq nE (.lit 6),true)
def pgS(p:Nat):IE:=match p with
 |0=>d14
 |p+1=> .fn 2 d14 (.lit (256*(p+1):Nat)) (.lit 256)
def imS(p:Nat):IE:=match p with
 |0=>d15
 |p+1=> .fn 2 d15 (.lit (256*(p+1):Nat)) (.lit 256)
def rgS(p:Nat):IE:= .wrap .i64 (.fn 0 d16 (.lit p) (.lit 0))
def puE(M:IE)(p:Nat):IE:= .fn 38 M (.fn 9 (.lit (256*p:Nat)) (pgS p) (.lit 0)) (.fn 9 (.lit 0) (.lit 256) (.lit 0))
def flK:Nat->IE
 |0=>nlE true
 |p+1=> .fn 31 (puE (flK p) p) (.lit p) (rgS p)
def flQ:Nat->IE
 |0=>nlE false
 |p+1=> .fn 31 (.fn 34 (puE (flQ p) p) (.lit p) (.fn 9 (imS p) (.lit 256) (.lit 0))) (.lit p) (rgS p)
def Ch:Con:={g:=87,args:=[.iface kPT pm,.ptr (some (2,0))],os:=[Sr st0,.ghost 0 [nlE true] .nil,.ghost 2 [.var 0] .nil],pre:=[n6,(iQ,true)],res:= .tuple [],os':=[Sr st0,.ghost 0 [.var 0] .nil,.ghost 2 [.var 0] .nil]}
def QQ:Know:=⟨[oU 0,eE 0],[]⟩
def CH:Con:={g:=87,args:=[.iface qPT pm,.ptr (some (1,0))],os:=[.ghost 1 [nlE false] (aX st0 2),.ghost 2 [.var 0] .nil],pre:=[n6,(iQ,false)],res:= .tuple [],os':=[.ghost 1 [.var 0] (aX st0 2),.ghost 2 [.var 0] .nil]}
def O2:Know:=⟨[oU 1,eE 1,oV 1],[]⟩
def ZQ:List (Dec×IE×IE):=[([],.var 0,flK 6)]
def Y9:List (Dec×IE×IE):=[([],.var 0,flQ 6)]
def Bh(c:Con)(i:Nat)(coh:Bool)(K:Know)(obs:List (Dec×IE×IE)):Bool:=((c.zr 6 rfT i (.var 0) coh).tree PR K 40 aG no' 12 []).all (fun dec e s=>c.leaf (qX (bdL c.bds) 12 obs) dec e (s.xa i 2 (.var 0))) (c.zr 6 rfT i (.var 0) coh).pre
theorem DH:(Bh Ch 2 true QQ ZQ&&(Bh CH 1 false O2 Y9&&(Ch.wf&&(CH.wf&&((eE 0).wf&&(eE 1).wf)))))=true:=by kernel_rfl
section
variable{G:Nat->Int->Int->Int->Int}(hG:cX G)
include hG
omit hG in
theorem iP{ρ:Env}{d:Dec}(h:Dec.holds ρ (n6::d)):mN (ρ.i 0)=6:=of_decide_eq_true (h n6 (List.mem_cons_self ..))
omit hG in
theorem CJ{ρ:Env}{d:Dec}{v:Bool}(h:Dec.holds ρ (n6::(iQ,v)::d)):aP (ρ.i 0)=v:=h (iQ,v) (by simp)
theorem me{ρ:Env}(h1:ρ.std G gh)(hn:mN (ρ.i 0)=6){p:Nat}(hp:p<6)(j:Nat)(hj:j<256):ag ((pgS p).ev ρ) (j:Nat)=mD (ρ.i 0) (256*p+j)/\ag ((imS p).ev ρ) (j:Nat)=mC (ρ.i 0) (256*p+j):=by
 obtain ⟨e14,e15,e16⟩:=qa hG h1;have e:(mN (ρ.i 0)).toNat=6:=by rw [hn]; rfl
 match p,hp with
 |0,_=>
  refine ⟨?_,?_⟩
  ·show ag (d14.ev ρ) (j:Nat)=_;rw [e14,Nat.mul_zero,Nat.zero_add];exact dv (by omega)
  ·show ag (d15.ev ρ) (j:Nat)=_;rw [e15,Nat.mul_zero,Nat.zero_add];exact fg (by omega)
 |p+1,hp=>
  refine ⟨?_,?_⟩
  ·show ag (aY (d14.ev ρ) ((256*(p+1):Nat):Int) ((256:Nat):Int)) (j:Nat)=_;rw [ch _ _ _ _ hj,e14];exact dv (by omega)
  ·show ag (aY (d15.ev ρ) ((256*(p+1):Nat):Int) ((256:Nat):Int)) (j:Nat)=_;rw [ch _ _ _ _ hj,e15];exact fg (by omega)
theorem Dk{ρ:Env}(h1:ρ.std G gh)(hm:bn (ρ.i 0))(hn:mN (ρ.i 0)=6){p:Nat}(hp:p<6):(rgS p).ev ρ=mR (ρ.i 0) p:=by
 obtain ⟨e14,e15,e16⟩:=qa hG h1;have e:(mN (ρ.i 0)).toNat=6:=by rw [hn]; rfl
 show IntKind.i64.wrap (ag (d16.ev ρ) (p:Nat))=_;rw [e16,fK (by omega)]
 have:=hm.r p (by omega)
 exact bI .i64 _ (by simp only [kLo]; omega) (by simp only [kHi]; omega)
theorem Ie{ρ:Env}(h1:ρ.std G gh)(M:IE)(p:Nat):(puE M p).ev ρ=poF (M.ev ρ) ((256*p:Nat):Int) ((pgS p).ev ρ) 0 256:=by
 show fnI ρ 38 (M.ev ρ) ((IE.fn 9 (.lit (256*p:Nat)) (pgS p) (.lit 0)).ev ρ) ((IE.fn 9 (.lit 0) (.lit 256) (.lit 0)).ev ρ)=_;rw [cj hG h1 (by decide) (by decide),jd hG h1,jd hG h1]
 show poF _ (unpI (cG ((256*p:Nat):Int) ((pgS p).ev ρ))).1 (unpI (cG ((256*p:Nat):Int) ((pgS p).ev ρ))).2 (unpI (cG 0 256)).1.toNat ((unpI (cG 0 256)).2.toNat-(unpI (cG 0 256)).1.toNat)=_;rw [dK,dK];rfl
theorem Jm{ρ:Env}(h1:ρ.std G gh)(M r:IE)(p:Nat):(IE.fn 31 M (.lit p) r).ev ρ=prS (M.ev ρ) p (r.ev ρ):=by
 show fnI ρ 31 (M.ev ρ) p (r.ev ρ)=_;rw [cj hG h1 (by decide) (by decide)]
 rfl
theorem Qg{ρ:Env}(h1:ρ.std G gh)(M d:IE)(p:Nat):(IE.fn 34 M (.lit p) (.fn 9 d (.lit 256) (.lit 0))).ev ρ=scS (M.ev ρ) p (d.ev ρ) 256:=by
 show fnI ρ 34 (M.ev ρ) p ((IE.fn 9 d (.lit 256) (.lit 0)).ev ρ)=_;rw [cj hG h1 (by decide) (by decide),jd hG h1]
 show scS _ _ (unpI (cG (d.ev ρ) 256)).1 (unpI (cG (d.ev ρ) 256)).2=_;rw [dK]
theorem WL{ρ:Env}(h1:ρ.std G gh)(hm:bn (ρ.i 0))(hn:mN (ρ.i 0)=6)(hc:aP (ρ.i 0)=true): ∀p,p<=6->Filled (ρ.i 0) ((flK p).ev ρ) p:=by
 intro p;have e6:(mN (ρ.i 0)).toNat=6:=by rw [hn]; rfl
 induction p with
 |zero=>
  intro _;have:=rX hn;rw [hc] at this;show Filled _ ((nlE true).ev ρ) 0;rw [wc hG true ρ h1];exact this
 |succ p ih=>
  intro hp;have h:=ih (by omega)
  show Filled _ ((IE.fn 31 (puE (flK p) p) (.lit p) (rgS p)).ev ρ) (p+1);rw [Jm hG h1,Ie hG h1,Dk hG h1 hm hn (by omega)]
  obtain ⟨a1,a2,a3,a4,a5,a6⟩:=uQ h hm (by omega) (row:=(pgS p).ev ρ) fun j hj=>(me hG h1 hn (by omega) j hj).1
  exact pz a1 a2 a3 a4 (fun h=>by rw [hc] at h; cases h) a6 hm (by omega)
theorem XE{ρ:Env}(h1:ρ.std G gh)(hm:bn (ρ.i 0))(hn:mN (ρ.i 0)=6)(hc:aP (ρ.i 0)=false): ∀p,p<=6->Filled (ρ.i 0) ((flQ p).ev ρ) p:=by
 intro p;have e6:(mN (ρ.i 0)).toNat=6:=by rw [hn]; rfl
 induction p with
 |zero=>
  intro _;have:=rX hn;rw [hc] at this;show Filled _ ((nlE false).ev ρ) 0;rw [wc hG false ρ h1];exact this
 |succ p ih=>
  intro hp;have h:=ih (by omega)
  show Filled _ ((IE.fn 31 (.fn 34 (puE (flQ p) p) (.lit p) (.fn 9 (imS p) (.lit 256) (.lit 0))) (.lit p) (rgS p)).ev ρ) (p+1);rw [Jm hG h1,Qg hG h1,Ie hG h1,Dk hG h1 hm hn (by omega)]
  obtain ⟨a1,a2,a3,a4,a5,a6⟩:=uQ h hm (by omega) (row:=(pgS p).ev ρ) fun j hj=>(me hG h1 hn (by omega) j hj).1
  obtain ⟨b1,b2,b3,b4,b5,b6⟩:=DA a1 a2 a3 hc a4 (a5 hc) a6 hm (by omega) (row:=(imS p).ev ρ) fun j hj=>(me hG h1 hn (by omega) j hj).2
  exact pz b1 b2 b3 b4 (fun _=>b5) b6 hm (by omega)
omit hG in
theorem vK{ρ:Env}{d:Dec}{v:Bool}(h:Dec.holds ρ ((pkC (.var 0),!v)::n6::(iQ,v)::d)):False:=by
 have a:aP (ρ.i 0)= !v:=h (pkC (.var 0),!v) (by simp)
 have b:aP (ρ.i 0)=v:=h (iQ,v) (by simp)
 rw [a] at b;cases v<;>cases b
omit hG in
theorem tailD{ρ:Env}{p:BE×Bool}{d:Dec}(h:Dec.holds ρ (p::d)):Dec.holds ρ d:=fun q hq=>h q (List.mem_cons_of_mem _ hq)
theorem N4:Ch.Ok PR G gh:=by
 have h:=DH;simp only [Bool.and_eq_true] at h
 have kn:QQ.Ok PR G gh:=bB (by
  show ([oU 0,eE 0].all Con.wf)=true;simp only [List.all_cons,List.all_nil,Bool.and_true,(ll hG (k:=0) (by decide)).1,h.2.2.2.2.1]) (aJ (ll hG (k:=0) (by decide)).2 (aJ (j9 hG (by decide)) dj))
 refine Con.qA mixed kn (k:=2) (i:=2) (N:=6) (el:=rfT) (M:= .var 0) (by decide) rfl rfl (cY hG) (fun ρ _ h3=>iP h3) (fun ρ B W f w args' hr ha=>fM ha (x:=1) (i:=2) (o:=0) rfl) 40 aG no' 12 12 (fun _=>ZQ) (fun coh ρ h1 h2 h3 hm=> ?_) fun coh=> ?_
 ·have h3':=tailD h3;refine cM (fun _=> ?_) ct
  exact (yn (WL hG h1 hm (iP h3') (CJ h3') 6 (Nat.le_refl _)) hm (iP h3')).symm
 ·cases coh
  ·exact .inl fun ρ _ h3=>vK (v:=true) h3
  ·exact .inr h.1
theorem MP:CH.Ok PR G gh:=by
 have h:=DH;simp only [Bool.and_eq_true] at h;have hs:=wt;simp only [Bool.and_eq_true] at hs
 have kn:O2.Ok PR G gh:=bB (by
  show ([oU 1,eE 1,oV 1].all Con.wf)=true;simp only [List.all_cons,List.all_nil,Bool.and_true,(ll hG (k:=1) (by decide)).1,h.2.2.2.2.2,hs.2.2.2.2.2]) (aJ (ll hG (k:=1) (by decide)).2 (aJ (j9 hG (by decide)) (aJ (EW hG (by decide)) dj)))
 refine Con.qA mixed kn (k:=2) (i:=1) (N:=6) (el:=rfT) (M:= .var 0) (by decide) rfl rfl (cY hG) (fun ρ _ h3=>iP h3) (fun ρ B W f w args' hr ha=>fM ha (x:=1) (i:=1) (o:=0) rfl) 40 aG no' 12 12 (fun _=>Y9) (fun coh ρ h1 h2 h3 hm=> ?_) fun coh=> ?_
 ·have h3':=tailD h3;refine cM (fun _=> ?_) ct
  exact (yn (XE hG h1 hm (iP h3') (CJ h3') 6 (Nat.le_refl _)) hm (iP h3')).symm
 ·cases coh
  ·exact .inr h.2.1
  ·exact .inl fun ρ _ h3=>vK (v:=false) h3
end
def sW(l:List ab)(j:Nat):ah:= .cells (aX (.ptr (some (j,0))::l) 0) 172 true 25
def aab(l:List ab):ah:= .cells (aX l 0) 55 false 5
def Y6(l:List ab)(j:Nat):ah:= .cells (aX (l++[.ptr (some (j,0))]) 0) 138 false 25
def ads(l:List ab)(j:Nat):ah:= .cells (aX (l++[.ptr (some (j,0))]) 0) 68 false 25
def mz:List ab:=b9 (.var 90)
def d90(k:IntKind)(j:Nat):IE:= .wrap k (.fn 0 (.var 90) (.lit (.ofNat j)) (.lit 0))
def mx0(e:IE):IE:= .sel true e (.lit 0) (.lit 0) e
def stN(e:Nat->IE)(isK:Bool)(j:Nat):ab:=match isK with
 |true=>match Nat.ble 9 j&&Nat.ble j 16 with
  |true=> .int .u32 (.lit 0)
  |false=>match Nat.beq j 17 with
   |true=> .int .u32 (.bits .and .u32 (e 17) (.lit 15))
   |false=>match Nat.ble 22 j with
    |true=> .int .i64 (mx0 (e j))
    |false=> .int .u32 (e j)
 |false=>match Nat.beq j 1||Nat.beq j 17 with
  |true=> .int .u32 (.lit 0)
  |false=>match Nat.ble 22 j with
   |true=> .int .i64 (mx0 (e j))
   |false=> .int .u32 (e j)
def e90(j:Nat):IE:=d90 (match Nat.ble 22 j with |true=> .i64 |false=> .u32) j
def Zf(isK:Bool):List ab:=(List.range 24).map (stN e90 isK)
def AR:Con:={qk with pre:=[n6],res:= .int .i64 (.lit 6)}
def osK:List ah:=[aab [.ptr (some (1,0)),.ptr none],Y6 mz 2,.ghost 2 [.var 0] .nil]
def BT:Con:={g:=40,args:=[pm],os:=osK,pre:=[n6,(iQ,true)],res:= .tuple [.iface kPT (.ptr (some (3,0))),.bool (.lit true)],os':=osK++[sW (Zf true) 4,.ghost 0 [.var 0] .nil]}
def QF:Know:=⟨[Fk,zQ,Ch,AR],[]⟩
def osQ:List ah:=[aab [.ptr none,.ptr (some (1,0))],ads mz 2,.ghost 2 [.var 0] .nil]
def Bi:Con:={g:=40,args:=[pm],os:=osQ,pre:=[n6,(iQ,false)],res:= .tuple [.iface qPT (.ptr (some (3,0))),.bool (.lit true)],os':=osQ++[.ghost 1 [.var 0] (aX (Zf false) 2)]}
def RO:Know:=⟨[Fk,zQ,CH,AR],[]⟩
theorem Ez:(fq BT QF 20 12 12&&(fq Bi RO 20 12 12&&(BT.wf&&(Bi.wf&&(QF.cons.all Con.wf&&RO.cons.all Con.wf)))))=true:=by kernel_rfl
section
variable{G:Nat->Int->Int->Int->Int}(hG:cX G)
include hG
theorem yD:AR.Ok PR G gh:=by
 refine eV (c:=qk) (q:=[(.lit 6,nE)]) rfl rfl rfl rfl (LK hG) rfl fun ρ h1 h2 h3=>⟨h2,aw,fun p hp=> ?_⟩
 rw [List.mem_singleton.1 hp];exact (iP (ρ:=ρ) (d:=[]) h3).symm
theorem MJ:BT.Ok PR G gh:=by
 have h:=Ez;simp only [Bool.and_eq_true] at h;exact bA (bB h.2.2.2.2.1 (aJ (E3 hG) (aJ (EG hG) (aJ (N4 hG) (aJ (yD hG) dj))))) h.1
theorem LU:Bi.Ok PR G gh:=by
 have h:=Ez;simp only [Bool.and_eq_true] at h;exact bA (bB h.2.2.2.2.2 (aJ (E3 hG) (aJ (EG hG) (aJ (MP hG) (aJ (yD hG) dj))))) h.2.1
end
def Qv(j:Nat):ah:= .cells (aX [.ptr (some (j,0))] 0) 172 false 25
def PH(m:String)(t:TypeId)(v:ab):ab:= .func (Fn.method m) [.iface t v] []
def kq(p:Nat):Con:={g:=85,args:=[.int .i64 (.lit p),PH "Peek" kPT pm],os:=[Qv 1,.ghost 0 [.var 0] .nil],pre:=[n6],res:= .strS (pgS p) (.lit 256),os':=[Qv 1,.ghost 0 [.var 0] .nil]}
def lI(p:Nat):Con:={g:=85,args:=[.int .i64 (.lit p),PH "Peek" qPT pm],os:=[dZ 1 (.var 0)],pre:=[n6],res:= .strS (pgS p) (.lit 256),os':=[dZ 1 (.var 0)]}
def lC(p:Nat):Con:={g:=85,args:=[.int .i64 (.lit p),PH "Code" qPT pm],os:=[dZ 1 (.var 0)],pre:=[n6,(iQ,false)],res:= .strS (imS p) (.lit 256),os':=[dZ 1 (.var 0)]}
def Sf(bd:Bd)(c:Nat)(row:IE)(p:Nat)(dec:Dec)(a b:IE):Bool:=
 match a,b with
 | .fn c0 r (.lit (.ofNat j)) _,.wrap k (.fn c' x (.lit (.ofNat m)) _)=>Nat.beq c0 0&&(bf k .u8&&(Nat.beq c' c&&(Nat.beq m (Nat.add (Nat.mul 256 p) j)&&(Nat.blt j 256&&(x.eq (.var 0)&&r.eq row)))))
 |a,b=>a.eqN bd dec b
def tD(c:Con)(l:List Con)(f:Nat)(row:IE)(p:Nat):Bool:=(c.tree PR ⟨l,[]⟩ 300 aG no' 12 []).all (c.leaf (Sf (bdL c.bds) f row p)) c.pre&&c.wf
def rI(p:Nat):Bool:=tD (kq p) [gI 0] 20 (pgS p) p
def se(p:Nat):Bool:=tD (lI p) [gI 1] 20 (pgS p) p
def qI(p:Nat):Bool:=tD (lC p) [zI 1] 21 (imS p) p
def six(f:Nat->Bool):Bool:=f 0&&(f 1&&(f 2&&(f 3&&(f 4&&f 5))))
theorem CK{f:Nat->Bool}(h:six f=true){p:Nat}(hp:p<6):f p=true:=by
 simp only [six,Bool.and_eq_true] at h;obtain ⟨h0,h1,h2,h3,h4,h5⟩:=h
 match p,hp with
 |0,_=>exact h0
 |1,_=>exact h1
 |2,_=>exact h2
 |3,_=>exact h3
 |4,_=>exact h4
 |5,_=>exact h5
end
end Go.Proofs.YtbhlmedfhilkbaaGreat

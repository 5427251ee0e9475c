/- Part Rm2. No condition. -/
import Derived.Test.YtpdhneemedlgaaaGreatRm1
set_option linter.all false
namespace Go.Proofs.YtpdhneemedlgaaaGreat
open Go Go.Sx
set_option maxRecDepth 1000000
noncomputable section
section
variable{ρ:Env}(h2:ρ.ok (bdL [bC 1]))(hm:bn (ρ.i 0))(h14:d14.ev ρ=gN (ρ.i 0))(h15:d15.ev ρ=ql (ρ.i 0))(h16:d16.ev ρ=qe (ρ.i 0))
include h2 hm
include h16 in
end
section
variable{G:Nat->Int->Int->Int->Int}(hG:cX G){ρ:Env}(h1:ρ.std G gh)(h2:ρ.ok (bdL [bC 1]))(hm:bn (ρ.i 0))
include hG h1
include h2 hm
omit hm in
theorem Po{r:Int}: ∀n i,(eO r i n).ev ρ=1-> ∀j,j<n->inM (ρ.i 0) (ad (ρ.i 1) (i+j:Nat))=true:=by
 intro n
 induction n with
 |zero=>intro i _ j hj; cases hj
 |succ n ih=>
  intro i h j hj;have e':(eO r i (n+1)).ev ρ=(okI i r (eO r (i+1) n) (.lit 0)).ev ρ:=rfl;rw [e',ta hG h1 h2] at h;split at h
  ·rename_i hk;cases j with
   |zero=>
    unfold okS at hk;simp only [Bool.and_eq_true] at hk;exact hk.1
   |succ j=>
    have:=ih (i+1) h j (by omega)
    rwa [show i+1+j=i+(j+1) by omega] at this
  ·have h:(0:Int)=1:=h;omega
end
section
variable{G:Nat->Int->Int->Int->Int}(hG:cX G)
include hG
end
def v4:IE:= .var 4
def v5:IE:= .var 5
section
variable{G:Nat->Int->Int->Int->Int}(hG:cX G)
include hG
end
theorem D1(a:Int)(i:Int):0<=ad a i/\ad a i<=4294967295:=wrap_mem .u32 _
section
variable{G:Nat->Int->Int->Int->Int}(hG:cX G){ρ:Env}(h1:ρ.std G gh)(h2:ρ.ok (bdL [bC 1,bC 2]))(hm:bn (ρ.i 0))
include hG h1 h2 hm
omit hG h1 hm in
theorem h2':ρ.ok (bdL [bC 1]):=fun i lo hi h=>by
 match i with
 |1=>exact h2 1 lo hi h
 |0=>cases h
 |i+2=>cases h
end
section
variable{G:Nat->Int->Int->Int->Int}(hG:cX G)
include hG
end
section
variable{G:Nat->Int->Int->Int->Int}(hG:cX G)
include hG
end
abbrev mpT:TypeId:=97
abbrev Zp:TypeId:=41
def abd(v:ab)(t:TypeId):ah:= .cells (aX [v] 0) t true 1
def i6B(i:Nat):Nat×Int×Int:=(i,0,1000000)
def poE(M i:IE):IE:= .fn 38 M (.fn 9 (.var 1) (.var 4) (.lit 0)) (.fn 9 i (.var 5) (.lit 0))
def aaz(k:Nat)(M:IE):List ah:=[abd (.ptr (some (2,0))) mpT,abd (uV .u32 1) Zp,dZ k M]
def MO(k:Nat):Con:={g:=482,args:=[.strS (.var 4) (.var 5),.func (Fn.func 483) [] [.ptr (some (0,0)),.ptr (some (1,0))],.int .i64 (.var 5),.int .i64 (.var 7)],os:=aaz k (.var 0),bds:=[bC 1,i6B 5,i6B 7],pre:=[(.lt (.var 5) (.var 7),false)],res:= .tuple [],os':=aaz k (poE (.var 0) (.var 7))}
def lPo(k:Nat):ba:={con:=MO k,key:=2,n:=17,sl:=[0,1,6,7],e:= .exit 0,sl':=[]}
def μPo:IE:= .sub (.var 5) (.var 7)
def tPo(k:Nat):Out:=(lPo k).tree PR ⟨[pR k],[]⟩ 20 aG no' 12 [] μPo
def poN:IE:=poE (.fn 30 (.var 0) (.wrap .u32 (.add (.var 1) (.var 7))) (.wrap .u8 (.fn 0 (.var 4) (.var 7) (.lit 0)))) (.add (.var 7) (.lit 1))
def Yj:List (Dec×IE×IE):=[([(.lt (.var 7) (.var 5),false)],poE (.var 0) (.var 7),.var 0),([(.lt (.var 7) (.var 5),true)],poE (.var 0) (.var 7),poN)]
def U4(k:Nat):Bool:=(tPo k).all ((MO k).leaf (qX (bdL (MO k).bds) 12 Yj)) (MO k).pre&&((MO k).wf&&(pR k).wf)
theorem po0:U4 0=true:=by kernel_rfl
theorem po1:U4 1=true:=by kernel_rfl
def oU(k:Nat):Con:=rp k 477 [uV .u32 1,.strS (.var 4) (.var 5)] [bC 1,i6B 5] (.tuple []) (poE (.var 0) (.lit 0))
def vq(k:Nat):Bool:=fq (oU k) ⟨[],[lPo k]⟩ 20 12 12&&(oU k).wf
theorem YR:vq 0=true:=by kernel_rfl
theorem YH:vq 1=true:=by kernel_rfl
section
variable{G:Nat->Int->Int->Int->Int}(hG:cX G)
include hG
theorem jd{GH:Nat->bz}{ρ:Env}(h1:ρ.std G GH)(x y:IE):(IE.fn 9 x y (.lit 0)).ev ρ=cG (x.ev ρ) (y.ev ρ):=by
 show fnI ρ 9 (x.ev ρ) (y.ev ρ) 0=_;rw [cj hG h1 (by decide) (by decide)]
 rfl
theorem Da{ρ:Env}(h1:ρ.std G gh)(M i:IE):(poE M i).ev ρ=poF (M.ev ρ) (ρ.i 1) (ρ.i 4) (i.ev ρ).toNat ((ρ.i 5).toNat-(i.ev ρ).toNat):=by
 show fnI ρ 38 (M.ev ρ) ((IE.fn 9 (.var 1) (.var 4) (.lit 0)).ev ρ) ((IE.fn 9 i (.var 5) (.lit 0)).ev ρ)=_;rw [cj hG h1 (by decide) (by decide),jd hG h1,jd hG h1]
 show poF _ (unpI (cG (ρ.i 1) (ρ.i 4))).1 (unpI (cG (ρ.i 1) (ρ.i 4))).2 (unpI (cG (i.ev ρ) (ρ.i 5))).1.toNat ((unpI (cG (i.ev ρ) (ρ.i 5))).2.toNat-(unpI (cG (i.ev ρ) (ρ.i 5))).1.toNat)=_;rw [dK,dK]
theorem Vo{ρ:Env}(h1:ρ.std G gh)(h2:ρ.ok (bdL [bC 1,i6B 5,i6B 7])):fC ρ Yj:=by
 have h7:=h2 7 0 1000000 rfl;have h5:=h2 5 0 1000000 rfl;refine cM (fun hd=> ?_) (cM (fun hd=> ?_) ct)
 ·have hd:decide (ρ.i 7<ρ.i 5)=false:=hd (.lt (.var 7) (.var 5),false) (by simp)
  have hd:=of_decide_eq_false hd;rw [Da hG h1];show poF (ρ.i 0) _ _ (ρ.i 7).toNat ((ρ.i 5).toNat-(ρ.i 7).toNat)=ρ.i 0;rw [show (ρ.i 5).toNat-(ρ.i 7).toNat=0 by omega]
  rfl
 ·have hd:decide (ρ.i 7<ρ.i 5)=true:=hd (.lt (.var 7) (.var 5),true) (by simp)
  have hd:=of_decide_eq_true hd;rw [Da hG h1,poN,Da hG h1];obtain ⟨i,hi⟩:=Int.eq_ofNat_of_zero_le h7.1;have e0:(IE.var 7).ev ρ=(i:Int):=hi;have e1:(IE.add (.var 7) (.lit 1)).ev ρ=((i+1:Nat):Int):=by show ρ.i 7+1=_; rw [hi]; rfl
  have e2:(IE.fn 30 (.var 0) (.wrap .u32 (.add (.var 1) (.var 7))) (.wrap .u8 (.fn 0 (.var 4) (.var 7) (.lit 0)))).ev ρ=stS (ρ.i 0) (ad (ρ.i 1) i) (IntKind.u8.wrap (ag (ρ.i 4) i)):=by
   show fnI ρ 30 (ρ.i 0) (IntKind.u32.wrap (ρ.i 1+ρ.i 7)) (IntKind.u8.wrap (ag (ρ.i 4) (ρ.i 7)))=_;rw [cj hG h1 (by decide) (by decide),hi]
   rfl
  rw [e0,e1,e2,Int.toNat_natCast,Int.toNat_natCast];obtain ⟨k,hk⟩: ∃k,(ρ.i 5).toNat-i=k+1:=⟨(ρ.i 5).toNat-i-1,by omega⟩
  rw [hk,show (ρ.i 5).toNat-(i+1)=k by omega]
  rfl
theorem Ys{k:Nat}(hk:k<2):(MO k).wf=true/\(lPo k).Ok PR G gh:=by
 have h:=two (p:=fun k=>U4 k=true) po0 po1 hk
 simp only [U4,Bool.and_eq_true] at h;obtain ⟨h,hw,hw'⟩:=h;refine ⟨hw,ba.f6 (c:=lPo k) mixed (K:=⟨[pR k],[]⟩) ⟨ku (by simp [hw']) (fun c hc=> ?_),fun _ h=>by cases h⟩ hw rfl (facts:=[]) (fun _ _ _ _=>aw) (Con.Ca [] (fun _ _ _ _=>aw) 12 Yj (fun ρ h1 h2 _=>Vo hG h1 h2) h)⟩
 simp only [List.mem_cons,List.not_mem_nil,or_false] at hc;subst hc;exact Bs hG hk
theorem ll{k:Nat}(hk:k<2):(oU k).wf=true/\(oU k).Ok PR G gh:=by
 have h:=two (p:=fun k=>vq k=true) YR YH hk
 simp only [vq,Bool.and_eq_true] at h
 exact ⟨h.2,bA ⟨bO.nil,fun l hl=>by
  simp only [List.mem_cons,List.not_mem_nil,or_false] at hl;subst hl;exact Ys hG hk⟩ h.1⟩
end
def v6:IE:= .var 6
section
variable{G:Nat->Int->Int->Int->Int}(hG:cX G)
include hG
end
def scM:IE:= .fn 34 (.var 0) (.var 1) (.fn 9 (.var 4) (.lit 256) (.lit 0))
def scC(_:IE):IE:=cp (.var 4)
def oV(k:Nat):Con:=rp k 492 [uV .i64 1,.strS (.var 4) (.lit 256)] [(1,0,9223372036854775807)] (.tuple []) scM
def Wr.Oh(k:Nat)(pe:IE):Wr:=⟨fun coh od oc=>match coh,oc with
 |true,_=>lT (gK k) slT true od oc pe
 |false,true=>[.cells (jy false) (gK k) false 2,.win pe 7 (bu 2 3 false od true (rE pe)) slT true,.arr [.u8] (pD pe) (.lit 256) od,.arr [.u8] (scC (pC pe)) (.lit 256) true]
 |false,false=>[.cells (jy false) (gK k) false 2,.win pe 7 (bu 2 4 false od true (rE pe)) slT true,.arr [.u8] (pD pe) (.lit 256) od,.arr [.u8] (pC pe) (.lit 256) false,.arr [.u8] (scC (cp (pC pe))) (.lit 256) true],
 fun coh od oc=>match coh,oc with
 |true,_=>{od:=od,oc:=oc,d:=pD pe,c:=pC pe,r:=rE pe}
 |false,true=>{j:=3,od:=od,oc:=true,d:=pD pe,c:=scC (pC pe),r:=rE pe}
 |false,false=>{j:=4,od:=od,oc:=true,d:=pD pe,c:=scC (cp (pC pe)),r:=rE pe}⟩
theorem DW(k:Nat)(pe:IE):te k pe (Wr.Oh k pe):=by
 intro coh od oc;cases coh<;>cases od<;>cases oc<;>exact ⟨rfl,rfl,fun h=>by first | (cases h; done) |rfl,by first |exact (show 3<=1000 by decide) |exact (show 4<=1000 by decide) |exact (show 5<=1000 by decide),by first |exact .inl rfl |exact .inr ⟨rfl,rfl⟩,fun _=>by first |exact .inl rfl |exact .inr ⟨rfl,rfl⟩,fun h=>by first | (cases h; done) |exact (show (2:Nat)≠3 by decide) |exact (show (2:Nat)≠4 by decide)⟩
theorem YM:dz (oV 0) 0 (.var 1) [] [] [] (Wr.Oh 0 (.var 1))=true:=by kernel_rfl
theorem aai:dz (oV 1) 1 (.var 1) [] [] [] (Wr.Oh 1 (.var 1))=true:=by kernel_rfl
def tM(k:Nat):Con:=rp k 41 [] [] (.int .i64 nE)
def rJ(k:Nat)(coh:Bool):Bool:=fq (tV (tM k) (gK k) slT coh) ⟨[],[]⟩ 20 12 12
theorem NU:((rJ 0 true&&rJ 0 false)&&(rJ 1 true&&rJ 1 false))=true:=by kernel_rfl
section
variable{G:Nat->Int->Int->Int->Int}(hG:cX G)
include hG
theorem Qb{ρ:Env}(h1:ρ.std G gh):scM.ev ρ=scS (ρ.i 0) (ρ.i 1) (ρ.i 4) 256:=by
 show fnI ρ 34 (ρ.i 0) (ρ.i 1) ((IE.fn 9 (.var 4) (.lit 256) (.lit 0)).ev ρ)=_;rw [cj hG h1 (by decide) (by decide),jd hG h1]
 show scS _ _ (unpI (cG (ρ.i 4) 256)).1 (unpI (cG (ρ.i 4) 256)).2=_;rw [dK]
omit hG in
theorem Ta{ρ:Env}(b:IE)(j:Nat)(hj:j<256):ag ((scC b).ev ρ) j=IntKind.u8.wrap (ag (ρ.i 4) j):=by
 show ag (qS (ρ.i 4) 256 4) j=_;rw [uB _ _ _ _ (by simpa using hj)]
 rfl
theorem EW{k:Nat}(hk:k<2):(oV k).Ok PR G gh:=by
 have pos: ∀ {ρ:Env},ρ.ok (bdL [(1,0,9223372036854775807)])->0<=ρ.i 1:=fun {ρ} h=>(h 1 0 _ rfl).1
 refine nQ (c:=oV k) hG hk rfl rfl rfl rfl (.var 1) [] bO.nil [] [] (Wr.Oh k (.var 1)) (DW k _) (fun ρ h2 h3=>pos h2) (fun ρ h1 h2 h3 hin=>ct) (fun ρ h1 h2 h3 hin=>ct) (fun ρ h1 h2 h3 hm hin=> ?_) (fun coh od oc ρ h1 h2 h3 hm hc p hp hlt=> ?_) (two (p:=fun k=>dz (oV k) k (.var 1) [] [] [] (Wr.Oh k (.var 1))=true) YM aai hk)
 ·rw [Qb hG h1];unfold scS;rw [if_neg (fun h=>by have:mN (ρ.i 0)<=ρ.i 1:=hin; omega)]
 ·rw [Qb hG h1];have hp':ρ.i 1=p:=hp;unfold scS;cases coh
  ·rw [if_pos ⟨⟨pos h2,by omega⟩,hc⟩,hp',Int.toNat_natCast]
   show b8 (ρ.i 0) (fP (ρ.i 0) (ixC p) (fun j=>IntKind.u8.wrap (ag (ρ.i 4) j)) 256) p _ _ _
   have key: ∀b:IE,b8 (ρ.i 0) (fP (ρ.i 0) (ixC p) (fun j=>IntKind.u8.wrap (ag (ρ.i 4) j)) 256) p (pgD (ρ.i 0) p) ((scC b).ev ρ) (mR (ρ.i 0) p):=fun b=>
    lJ hm hc hlt (fun j=>by have:=eJ (ag (ρ.i 4) j); obtain ⟨a,b⟩:=this; unfold fE; omega) (Nat.le_refl _) fun j hj=>by
     rw [if_pos hj];exact Ta b j hj
   cases oc
   ·show b8 _ _ p ((pD (.var 1)).ev ρ) ((scC (cp (pC (.var 1)))).ev ρ) ((rE (.var 1)).ev ρ);rw [uO hG h1 hp,oY hp (hm.r p hlt)];exact key _
   ·show b8 _ _ p ((pD (.var 1)).ev ρ) ((scC (pC (.var 1))).ev ρ) ((rE (.var 1)).ev ρ);rw [uO hG h1 hp,oY hp (hm.r p hlt)];exact key _
  ·rw [if_neg (fun h=>by rw [hc] at h; exact absurd h.2 (by decide))]
   show b8 (ρ.i 0) (ρ.i 0) p ((pD (.var 1)).ev ρ) ((pC (.var 1)).ev ρ) ((rE (.var 1)).ev ρ);rw [uO hG h1 hp,DE hG h1 hp,oY hp (hm.r p hlt)];exact b8.refl hm hlt
omit hG in
theorem MB{k:Nat}(hk:k<2):(tM k).Ok PR G gh:=by
 have h:=NU;simp only [Bool.and_eq_true] at h;refine Lo (k:=k) (cv:=mu k) (iW hk) rfl rfl rfl rfl fun coh=>bA (L:=20) (d:=12) (k:=12) bc ?_
 match k,hk with
 |0,_=>cases coh; exact h.1.2; exact h.1.1
 |1,_=>cases coh; exact h.2.2; exact h.2.1
end
structure Filled (M Mk:Int) (p:Nat):Prop where
 ok:bn Mk
 n:mN Mk=mN M
 coh:aP Mk=aP M
 d: ∀a,a<256*(mN M).toNat->mD Mk a=if a<256*p then mD M a else 0
 c:aP M=false-> ∀a,a<256*(mN M).toNat->mC Mk a=if a<256*p then mC M a else 0
 r: ∀q,q<(mN M).toNat->mR Mk q=if q<p then mR M q else 0
structure Nx (M M':Int) (D C R:Nat->Int):Prop where
 ok:bn M'
 n:mN M'=mN M
 coh:aP M'=aP M
 d: ∀a,a<256*(mN M).toNat->mD M' a=D a
 c:aP M=false-> ∀a,a<256*(mN M).toNat->mC M' a=C a
 r: ∀q,q<(mN M).toNat->mR M' q=R q
theorem Nx.trans{M M' M'':Int}{D C R D' C' R':Nat->Int}(h:Nx M M' D C R)(k:Nx M' M'' D' C' R'):Nx M M'' D' C' R':=
 ⟨k.ok,k.n.trans h.n,k.coh.trans h.coh,fun a ha=>k.d a (by rw [h.n]; exact ha),fun e a ha=>k.c (by rw [h.coh]; exact e) a (by rw [h.n]; exact ha),fun q hq=>k.r q (by rw [h.n]; exact hq)⟩
def zr1(k:Nat)(M:Int)(p:Nat):Int:=match k with
 |0=>prS (poF M (256*p:Nat) 0 0 256) (p:Nat) 0
 |_=>prS (scS (poF M (256*p:Nat) 0 0 256) (p:Nat) 0 256) (p:Nat) 0
def zrF(kd:Nat)(M:Int)(p:Nat):Nat->Int
 |0=>M
 |k+1=>zrF kd (zr1 kd M p) (p+1) k
def pcF(M:Int)(b p:Nat):Nat->Int
 |0=>M
 |k+1=>pcF (prS M ((b+p:Nat):Int) 5) b (p+1) k
end
end Go.Proofs.YtpdhneemedlgaaaGreat

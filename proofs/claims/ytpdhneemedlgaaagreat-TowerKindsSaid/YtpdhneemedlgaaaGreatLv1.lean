/- Part Lv1. No condition. -/
import Derived.Test.YtpdhneemedlgaaaGreatMw3
set_option linter.all false
namespace Go.Proofs.YtpdhneemedlgaaaGreat
open Go Go.Sx
set_option maxRecDepth 1000000
noncomputable section
structure LevG (G:Nat->Int->Int->Int->Int):Prop where
 b:cX G
 zr: ∀x y z,G 110 x y z=zrF 0 x y.toNat (z-y).toNat/\G 112 x y z=zrF 1 x y.toNat (z-y).toNat
 pc: ∀x y z,G 111 x y z=pcF x ((unpI y).1+1).toNat (unpI y).2.toNat (z-(unpI y).2).toNat
def hV(k i:Nat):ab:=match k with
 |0=> .iface 60 (.ptr (some (i,0)))
 |_=> .iface 72 (.ptr (some (i,0)))
def hO(k i:Nat)(M:IE):List ah:=match k with
 |0=>[.cells (T.nil.set 0 (.ptr (some (Nat.add i 1,0)))) 100 false 25,.ghost 0 [M] .nil]
 |_=>[.ghost 1 [M] (mu 1)]
def hL(k:Nat):Nat:=match k with
 |0=>2
 |_=>1
def ld(own:Bool):ah:= .arr [] (.lit 0) (.lit 0) own
def zrE(k:Nat)(M p n:IE):IE:=match k with
 |0=> .fn 110 M p n
 |_=> .fn 112 M p n
def ak(i:Nat):Nat×Int×Int:=(i,0,4096)
def cZr(k:Nat):Con:=
 let cO:List ab:=[hV k 0,uV .i64 2,uV .i64 3,.ptr (some (hL k,0))]
 {g:=15,args:=cO++[.strS (.lit 0) (.lit 256),uV .i64 5,uV .i64 6],os:=hO k 0 (.var 0)++[ld false],bds:=[ak 2,ak 3,ak 5,ak 6],pre:=[(.lt (.var 5) (.var 6),false)],res:= .tuple cO,os':=hO k 0 (zrE k (.var 0) (.var 6) (.var 5))++[ld false]}
def lZr(k:Nat):ba:={con:=cZr k,key:=11,n:=111,sl:=[1,2,3,10,11,67,68],e:= .exit 0,sl':=[1,2,3,10]}
def μZr:IE:= .sub (.var 5) (.var 6)
def Zh(k:Nat):List Con:=[oU k,oV k,eE k]
def tZr(k:Nat):Out:=(lZr k).tree PR ⟨Zh k,[]⟩ 20 aG no' 14 [] μZr
def pr9(a b:IE):IE:= .fn 9 a b (.lit 0)
def zrN(k:Nat):IE:=match k with
 |0=> .fn 31 (.fn 38 (.var 0) (pr9 (.mul (.var 6) (.lit 256)) (.lit 0)) (pr9 (.lit 0) (.lit 256))) (.var 6) (.lit 0)
 |_=> .fn 31 (.fn 34 (.fn 38 (.var 0) (pr9 (.mul (.var 6) (.lit 256)) (.lit 0)) (pr9 (.lit 0) (.lit 256))) (.var 6) (pr9 (.lit 0) (.lit 256))) (.var 6) (.lit 0)
def Bh(k:Nat):List (Dec×IE×IE):=[([(.lt (.var 6) (.var 5),false)],zrE k (.var 0) (.var 6) (.var 5),.var 0),([(.lt (.var 6) (.var 5),true)],zrE k (.var 0) (.var 6) (.var 5),zrE k (zrN k) (.add (.var 6) (.lit 1)) (.var 5))]
def yL(k:Nat):Bool:=(tZr k).all ((cZr k).leaf (qX (bdL (cZr k).bds) 12 (Bh k))) (cZr k).pre&&(cZr k).wf
theorem CV:yL 0=true:=by kernel_rfl
theorem Dq:yL 1=true:=by kernel_rfl
theorem tK:((Zh 0).all Con.wf&&(Zh 1).all Con.wf)=true:=by kernel_rfl
theorem qK{k:Nat}(hk:k<2):(Zh k).all Con.wf=true:=by
 have h:=tK;rw [Bool.and_eq_true] at h;exact two (p:=fun k=>(Zh k).all Con.wf=true) h.1 h.2 hk
section
variable{G:Nat->Int->Int->Int->Int}(hG:LevG G)
include hG
theorem gF{GH:Nat->bz}{ρ:Env}(h:ρ.std G GH){c:Nat}(h1:7<c)(x y z:Int):fnI ρ c x y z=G c x y z:=by
 rw [bY h1,h.1]
theorem oN{ρ:Env}(h1:ρ.std G gh)(M a r i n:IE):(IE.fn 38 M (pr9 a r) (pr9 i n)).ev ρ=poF (M.ev ρ) (a.ev ρ) (r.ev ρ) (i.ev ρ).toNat ((n.ev ρ).toNat-(i.ev ρ).toNat):=by
 show fnI ρ 38 (M.ev ρ) ((pr9 a r).ev ρ) ((pr9 i n).ev ρ)=_;rw [cj hG.b h1 (by decide) (by decide),pr9,pr9,jd hG.b h1,jd hG.b h1]
 show poF _ (unpI (cG (a.ev ρ) (r.ev ρ))).1 (unpI (cG (a.ev ρ) (r.ev ρ))).2 (unpI (cG (i.ev ρ) (n.ev ρ))).1.toNat ((unpI (cG (i.ev ρ) (n.ev ρ))).2.toNat-(unpI (cG (i.ev ρ) (n.ev ρ))).1.toNat)=_;rw [dK,dK]
theorem A1{ρ:Env}(h1:ρ.std G gh)(M p r n:IE):(IE.fn 34 M p (pr9 r n)).ev ρ=scS (M.ev ρ) (p.ev ρ) (r.ev ρ) (n.ev ρ):=by
 show fnI ρ 34 (M.ev ρ) (p.ev ρ) ((pr9 r n).ev ρ)=_;rw [cj hG.b h1 (by decide) (by decide),pr9,jd hG.b h1]
 show scS _ _ (unpI (cG (r.ev ρ) (n.ev ρ))).1 (unpI (cG (r.ev ρ) (n.ev ρ))).2=_;rw [dK]
theorem mJ{ρ:Env}(h1:ρ.std G gh)(M p r:IE):(IE.fn 31 M p r).ev ρ=prS (M.ev ρ) (p.ev ρ) (r.ev ρ):=by
 show fnI ρ 31 (M.ev ρ) (p.ev ρ) (r.ev ρ)=_;rw [cj hG.b h1 (by decide) (by decide)]
 rfl
theorem j7{k:Nat}(hk:k<2){ρ:Env}(h1:ρ.std G gh)(M p n:IE):(zrE k M p n).ev ρ=zrF k (M.ev ρ) (p.ev ρ).toNat (n.ev ρ-p.ev ρ).toNat:=by
 match k,hk with
 |0,_=>
  show fnI ρ 110 (M.ev ρ) (p.ev ρ) (n.ev ρ)=_;rw [gF hG h1 (by decide),(hG.zr _ _ _).1]
 |1,_=>
  show fnI ρ 112 (M.ev ρ) (p.ev ρ) (n.ev ρ)=_;rw [gF hG h1 (by decide),(hG.zr _ _ _).2]
theorem B3{k:Nat}(hk:k<2){ρ:Env}(h1:ρ.std G gh){p:Nat}(hp:ρ.i 6=(p:Nat)):(zrN k).ev ρ=zr1 k (ρ.i 0) p:=by
 have e1:(IE.mul (.var 6) (.lit 256)).ev ρ=((256*p:Nat):Int):=by
  show ρ.i 6*256=_;rw [hp];omega
 have e2:(IE.var 6).ev ρ=(p:Nat):=hp
 match k,hk with
 |0,_=>
  show (IE.fn 31 _ _ _).ev ρ=_;rw [mJ hG h1,oN hG h1,e1,e2];rfl
 |1,_=>
  show (IE.fn 31 _ _ _).ev ρ=_;rw [mJ hG h1,A1 hG h1,oN hG h1,e1,e2];rfl
theorem yF{k:Nat}(hk:k<2){ρ:Env}(h1:ρ.std G gh)(h2:ρ.ok (bdL [ak 2,ak 3,ak 5,ak 6])):fC ρ (Bh k):=by
 have h6:=h2 6 0 4096 rfl;have h5:=h2 5 0 4096 rfl;obtain ⟨p,hp⟩:=Int.eq_ofNat_of_zero_le h6.1;obtain ⟨n,hn⟩:=Int.eq_ofNat_of_zero_le h5.1;refine cM (fun hd=> ?_) (cM (fun hd=> ?_) ct)
 ·have hd:decide (ρ.i 6<ρ.i 5)=false:=hd (.lt (.var 6) (.var 5),false) (by simp)
  have hd:=of_decide_eq_false hd;rw [j7 hG hk h1];show zrF k (ρ.i 0) (ρ.i 6).toNat (ρ.i 5-ρ.i 6).toNat=ρ.i 0;rw [show (ρ.i 5-ρ.i 6).toNat=0 by omega]
  rfl
 ·have hd:decide (ρ.i 6<ρ.i 5)=true:=hd (.lt (.var 6) (.var 5),true) (by simp)
  have hd:=of_decide_eq_true hd;rw [j7 hG hk h1,j7 hG hk h1,B3 hG hk h1 hp];show zrF k (ρ.i 0) (ρ.i 6).toNat (ρ.i 5-ρ.i 6).toNat=zrF k (zr1 k (ρ.i 0) p) (ρ.i 6+1).toNat (ρ.i 5-(ρ.i 6+1)).toNat;obtain ⟨m,hm⟩: ∃m,(ρ.i 5-ρ.i 6).toNat=m+1:=⟨(ρ.i 5-ρ.i 6).toNat-1,by omega⟩
  rw [hm,show (ρ.i 5-(ρ.i 6+1)).toNat=m by omega,show (ρ.i 6+1).toNat=p+1 by omega,show (ρ.i 6).toNat=p by omega]
  rfl
theorem pZ{k:Nat}(hk:k<2)(hw:(Zh k).all Con.wf=true):bO PR G gh (Zh k):=ku hw fun c hc=>by
 simp only [Zh,List.mem_cons,List.not_mem_nil,or_false] at hc
 rcases hc with rfl |rfl |rfl
 ·exact (ll hG.b hk).2
 ·exact EW hG.b hk
 ·exact j9 hG.b hk
theorem AI{k:Nat}(hk:k<2):(cZr k).wf=true/\(lZr k).Ok PR G gh:=by
 have h:=two (p:=fun k=>yL k=true) CV Dq hk
 simp only [yL,Bool.and_eq_true] at h;obtain ⟨h,hw⟩:=h;exact ⟨hw,ba.f6 (c:=lZr k) mixed (K:=⟨Zh k,[]⟩) ⟨pZ hG hk (qK hk),fun _ h=>by cases h⟩ hw rfl (facts:=[]) (fun _ _ _ _=>aw) (Con.Ca [] (fun _ _ _ _=>aw) 12 (Bh k) (fun ρ h1 h2 _=>yF hG hk h1 h2) h)⟩
end
def pcE(M b j c:IE):IE:= .fn 111 M (pr9 b j) c
def cPc(k:Nat):Con:=
 let cO:List ab:=[hV k 0,.ptr (some (hL k,0))]
 {g:=15,args:=[hV k 0,uV .i64 2,.ptr (some (hL k,0)),uV .i64 3,uV .i64 6],os:=hO k 0 (.var 0)++[ld false],bds:=[ak 2,ak 3,ak 6],pre:=[(.lt (.var 3) (.var 6),false)],res:= .tuple cO,os':=hO k 0 (pcE (.var 0) (.var 2) (.var 6) (.var 3))++[ld false]}
def lPc(k:Nat):ba:={con:=cPc k,key:=19,n:=111,sl:=[1,2,10,88,89],e:= .exit 2,sl':=[1,10]}
def μPc:IE:= .sub (.var 3) (.var 6)
def tPc(k:Nat):Out:=(lPc k).tree PR ⟨Zh k,[]⟩ 20 aG no' 14 [] μPc
def BD:List (Dec×IE×IE):=[([(.lt (.var 6) (.var 3),false)],pcE (.var 0) (.var 2) (.var 6) (.var 3),.var 0),([(.lt (.var 6) (.var 3),true)],pcE (.var 0) (.var 2) (.var 6) (.var 3),pcE (.fn 31 (.var 0) (.add (.add (.var 2) (.var 6)) (.lit 1)) (.lit 5)) (.var 2) (.add (.var 6) (.lit 1)) (.var 3))]
def yC(k:Nat):Bool:=(tPc k).all ((cPc k).leaf (qX (bdL (cPc k).bds) 12 BD)) (cPc k).pre&&(cPc k).wf
theorem DD:yC 0=true:=by kernel_rfl
theorem Dp:yC 1=true:=by kernel_rfl
section
variable{G:Nat->Int->Int->Int->Int}(hG:LevG G)
include hG
theorem kW{ρ:Env}(h1:ρ.std G gh)(M b j c:IE):(pcE M b j c).ev ρ=pcF (M.ev ρ) (b.ev ρ+1).toNat (j.ev ρ).toNat (c.ev ρ-j.ev ρ).toNat:=by
 show fnI ρ 111 (M.ev ρ) ((pr9 b j).ev ρ) (c.ev ρ)=_;rw [gF hG h1 (by decide),hG.pc,pr9,jd hG.b h1,dK]
theorem yq{ρ:Env}(h1:ρ.std G gh)(h2:ρ.ok (bdL [ak 2,ak 3,ak 6])):fC ρ BD:=by
 have h6:=h2 6 0 4096 rfl;have h3:=h2 3 0 4096 rfl;have hb:=h2 2 0 4096 rfl;refine cM (fun hd=> ?_) (cM (fun hd=> ?_) ct)
 ·have hd:decide (ρ.i 6<ρ.i 3)=false:=hd (.lt (.var 6) (.var 3),false) (by simp)
  have hd:=of_decide_eq_false hd;rw [kW hG h1];show pcF (ρ.i 0) (ρ.i 2+1).toNat (ρ.i 6).toNat (ρ.i 3-ρ.i 6).toNat=ρ.i 0;rw [show (ρ.i 3-ρ.i 6).toNat=0 by omega]
  rfl
 ·have hd:decide (ρ.i 6<ρ.i 3)=true:=hd (.lt (.var 6) (.var 3),true) (by simp)
  have hd:=of_decide_eq_true hd;rw [kW hG h1,kW hG h1,mJ hG h1];show pcF (ρ.i 0) (ρ.i 2+1).toNat (ρ.i 6).toNat (ρ.i 3-ρ.i 6).toNat=pcF (prS (ρ.i 0) (ρ.i 2+ρ.i 6+1) 5) (ρ.i 2+1).toNat (ρ.i 6+1).toNat (ρ.i 3-(ρ.i 6+1)).toNat;obtain ⟨m,hm⟩: ∃m,(ρ.i 3-ρ.i 6).toNat=m+1:=⟨(ρ.i 3-ρ.i 6).toNat-1,by omega⟩
  rw [hm,show (ρ.i 3-(ρ.i 6+1)).toNat=m by omega,show (ρ.i 6+1).toNat=(ρ.i 6).toNat+1 by omega]
  show pcF (prS (ρ.i 0) (((ρ.i 2+1).toNat+(ρ.i 6).toNat:Nat):Int) 5) _ _ _=_;rw [show (((ρ.i 2+1).toNat+(ρ.i 6).toNat:Nat):Int)=ρ.i 2+ρ.i 6+1 by omega]
theorem BY{k:Nat}(hk:k<2):(cPc k).wf=true/\(lPc k).Ok PR G gh:=by
 have h:=two (p:=fun k=>yC k=true) DD Dp hk
 simp only [yC,Bool.and_eq_true] at h;obtain ⟨h,hw⟩:=h;exact ⟨hw,ba.f6 (c:=lPc k) mixed (K:=⟨Zh k,[]⟩) ⟨pZ hG hk (qK hk),fun _ h=>by cases h⟩ hw rfl (facts:=[]) (fun _ _ _ _=>aw) (Con.Ca [] (fun _ _ _ _=>aw) 12 BD (fun ρ h1 h2 _=>yq hG h1 h2) h)⟩
end
def hZ(k:Nat)(M:IE)(own:Bool):List ah:=match k with
 |0=>[.cells (aX (.ptr (some (1,0))::st0) 0) 100 own 25,.ghost 0 [M] .nil]
 |_=>[.ghost 1 [M] (aX st0 2)]
def lvM(k:Nat)(M n b c:IE):IE:=pcE (.fn 31 (zrE k M (.lit 0) n) b (.lit 3)) b (.lit 0) c
def xT(k:Nat):Int:=match k with
 |0=>2
 |_=>1
def lvT(k:Nat)(i:Nat)(b c:IE):T ab:=
 let t:=aF st0 11 ((((T.nil.set 0 (.int .i64 (.lit (xT k)))).set 1 (.int .i64 b)).set 2 (hV k 0)).set 35 (.sliceS (Nat.add i 1) (.lit 0) b 1 true))
 let t:=match k with
  |0=>t.set 36 (.sliceS (Nat.add i 2) (.lit 0) (.mul b (.lit 256)) 1 true)
  |_=>t.set 36 (.slice none 0 0 0)
 let j:=match k with
  |0=>Nat.add i 3
  |_=>Nat.add i 2
 (((((((t.set 37 (.ptr (some (j,0)))).set 38 (.int .i64 c)).set 39 (.map (some (Nat.add j 1)))).set 40 (.map (some (Nat.add j 2)))).set 41 (.map (some (Nat.add j 3)))).set 42 (.bool (.lit false))).set 43 (.int .i64 (.lit 0))).set 44 (.int .i64 (.lit 0))
def caO(b:IE)(c:IE):ah:= .cells (aX [.int .u32 (.add (.mul b (.lit 256)) (.lit 256)),.int .i64 (.mul c (.lit 256)),.int .i64 (.lit 0),.map none,.map none] 0) 239 true 5
def lvO(k:Nat)(b c:IE):List ah:=
 let i:=hL k
 .cells (lvT k i b c) 90 true 45:: .arr [.i64] (.lit 0) b true::((match k with
  |0=>[.arr [.u8] (.lit 0) (.mul b (.lit 256)) true]
  |_=>[])++[caO b c,.map [],.map [],.map []])
def cLv(k:Nat):Con:={g:=15,args:=[.int .i64 (.lit (xT k)),hV k 0,uV .i64 2,uV .i64 3],os:=hZ k (.var 0) true,bds:=[ak 2,ak 3],pre:=[(.lt (.wrap .i64 (.sub (.wrap .i64 (.sub nE (.lit 1))) (.var 2))) (.var 3),false),(.lt nE (.lit 0),false),(.lt (.lit 4096) nE,false)],res:= .tuple [.ptr (some (hL k,0)),.int .i64 (.lit 0)],os':=hZ k (lvM k (.var 0) nE (.var 2) (.var 3)) true++lvO k (.var 2) (.var 3)}
def KLv(k:Nat):Know:=⟨tM k::Zh k,[lZr k,lPc k]⟩
theorem CG:fq (cLv 0) (KLv 0) 20 14 12=true:=by kernel_rfl
theorem Ds:fq (cLv 1) (KLv 1) 20 14 12=true:=by kernel_rfl
def cyF(f:Int->Int->Int)(D M a:Int)(k:Nat):Nat->Int
 |0=>D
 |n+1=>cyF f (aD D (k:Nat) (IntKind.u8.wrap (f M (ad a k)))) M a (k+1) n
structure CpyG (G:Nat->Int->Int->Int->Int):Prop where
 l:LevG G
 cd: ∀x y z,G 113 x y z=cyF pkS x y (unpI z).1 (unpI z).2.toNat (256-(unpI z).2).toNat
 cc: ∀x y z,G 114 x y z=cyF cdS x y (unpI z).1 (unpI z).2.toNat (256-(unpI z).2).toNat
def cyE(c:Nat)(D M a k:IE):IE:= .fn c D M (pr9 a k)
def cyC(g:Nat):Nat:=match g with
 |0=>113
 |_=>114
def cyP(g:Nat):Nat:=match g with
 |0=>20
 |_=>21
def cCy(g:Nat):Con:=
 let cO:List ab:=[hV g 0,.iface 44 (.ptr (some (hL g,0))),.int .i64 (.lit 0),uV .i64 6,uV .u32 2,.ptr (some (Nat.add (hL g) 1,0)),.ptr (some (Nat.add (hL g) 2,0)),uV .i64 5,uV .i64 6]
 let os (d c:IE):List ah:=hO g 0 (.var 0)++[ld false,.arr [.u8] d (.lit 256) true,.arr [.u8] c (.lit 256) true]
 {g:=22,args:=cO++[uV .i64 1],os:=os (.var 10) (.var 11),bds:=[(1,0,256),bC 2,ak 5,ak 6],res:= .tuple cO,os':=os (cyE 113 (.var 10) (.var 0) (.var 2) (.var 1)) (cyE (cyC g) (.var 11) (.var 0) (.var 2) (.var 1))}
def lCy(g:Nat):ba:={con:=cCy g,key:=10,n:=91,sl:=[0,1,4,5,6,7,8,31,32,38],e:= .exit 2,sl':=[0,1,4,5,6,7,8,31,32]}
def μCy:IE:= .sub (.lit 256) (.var 1)
def iC(g:Nat):List Con:=[gI g,zI g]
def tCy(g:Nat):Out:=(lCy g).tree PR ⟨iC g,[]⟩ 20 aG no' 14 [] μCy
def cyN(f c:Nat)(D:IE):IE:=cyE c (.fn 1 D (.var 1) (.wrap .u8 (.fn f (.var 0) (.wrap .u32 (.add (.var 2) (.var 1))) (.lit 0)))) (.var 0) (.var 2) (.add (.var 1) (.lit 1))
def BC(g:Nat):List (Dec×IE×IE):=[([(.lt (.var 1) (.lit 256),false)],cyE 113 (.var 10) (.var 0) (.var 2) (.var 1),.var 10),([(.lt (.var 1) (.lit 256),false)],cyE (cyC g) (.var 11) (.var 0) (.var 2) (.var 1),.var 11),([(.lt (.var 1) (.lit 256),true)],cyE 113 (.var 10) (.var 0) (.var 2) (.var 1),cyN 20 113 (.var 10)),([(.lt (.var 1) (.lit 256),true)],cyE (cyC g) (.var 11) (.var 0) (.var 2) (.var 1),cyN (cyP g) (cyC g) (.var 11))]
def yw(g:Nat):Bool:=(tCy g).all ((cCy g).leaf (qX (bdL (cCy g).bds) 12 (BC g))) (cCy g).pre&&(cCy g).wf
theorem Df:yw 0=true:=by kernel_rfl
theorem DB:yw 1=true:=by kernel_rfl
theorem n9:((iC 0).all Con.wf&&(iC 1).all Con.wf)=true:=by kernel_rfl
theorem xr{k:Nat}(hk:k<2):(iC k).all Con.wf=true:=by
 have h:=n9;rw [Bool.and_eq_true] at h;exact two (p:=fun k=>(iC k).all Con.wf=true) h.1 h.2 hk
section
variable{G:Nat->Int->Int->Int->Int}(hG:CpyG G)
include hG
theorem fS{ρ:Env}(h1:ρ.std G gh)(D M a k:IE):(cyE 113 D M a k).ev ρ=cyF pkS (D.ev ρ) (M.ev ρ) (a.ev ρ) (k.ev ρ).toNat (256-k.ev ρ).toNat/\(cyE 114 D M a k).ev ρ=cyF cdS (D.ev ρ) (M.ev ρ) (a.ev ρ) (k.ev ρ).toNat (256-k.ev ρ).toNat:=by
 refine ⟨?_,?_⟩
 ·show fnI ρ 113 (D.ev ρ) (M.ev ρ) ((pr9 a k).ev ρ)=_;rw [gF hG.l h1 (by decide),hG.cd,pr9,jd hG.l.b h1,dK]
 ·show fnI ρ 114 (D.ev ρ) (M.ev ρ) ((pr9 a k).ev ρ)=_;rw [gF hG.l h1 (by decide),hG.cc,pr9,jd hG.l.b h1,dK]
theorem oZ{g:Nat}{ρ:Env}(h1:ρ.std G gh)(D M a k:IE):(cyE (cyC g) D M a k).ev ρ=cyF (match g with |0=>pkS |_=>cdS) (D.ev ρ) (M.ev ρ) (a.ev ρ) (k.ev ρ).toNat (256-k.ev ρ).toNat:=by
 match g with
 |0=>exact (fS hG h1 D M a k).1
 |_+1=>exact (fS hG h1 D M a k).2
theorem yu{g:Nat}{ρ:Env}(h1:ρ.std G gh)(h2:ρ.ok (bdL [(1,0,256),bC 2,ak 5,ak 6])):fC ρ (BC g):=by
 have hk:=h2 1 0 256 rfl;obtain ⟨k,hk'⟩:=Int.eq_ofNat_of_zero_le hk.1
 have step: ∀(f:Int->Int->Int) (c:Nat) (D:Int) (v:Int),v=f (ρ.i 0) (IntKind.u32.wrap (ρ.i 2+ρ.i 1))->ρ.i 1<256->cyF f D (ρ.i 0) (ρ.i 2) (ρ.i 1).toNat (256-ρ.i 1).toNat=cyF f (aD D (ρ.i 1) (IntKind.u8.wrap v)) (ρ.i 0) (ρ.i 2) (ρ.i 1+1).toNat (256-(ρ.i 1+1)).toNat:=fun f c D v hv hlt=>by
  obtain ⟨m,hm⟩: ∃m,(256-ρ.i 1).toNat=m+1:=⟨(256-ρ.i 1).toNat-1,by omega⟩
  rw [hv,hm,show (256-(ρ.i 1+1)).toNat=m by omega,show (ρ.i 1+1).toNat=k+1 by omega,show (ρ.i 1).toNat=k by omega,hk']
  rfl
 have b: ∀f,7<f->f<100->(IE.fn f (.var 0) (.wrap .u32 (.add (.var 2) (.var 1))) (.lit 0)).ev ρ=gA f (ρ.i 0) (IntKind.u32.wrap (ρ.i 2+ρ.i 1)) 0:=fun f q1 q2=>cj hG.l.b h1 q1 q2 _ _ _
 refine cM (fun hd=> ?_) (cM (fun hd=> ?_) (cM (fun hd=> ?_) (cM (fun hd=> ?_) ct)))
 ·have hd:decide (ρ.i 1<256)=false:=hd (.lt (.var 1) (.lit 256),false) (by simp)
  have hd:=of_decide_eq_false hd;rw [(fS hG h1 _ _ _ _).1];show cyF pkS (ρ.i 10) (ρ.i 0) (ρ.i 2) (ρ.i 1).toNat (256-ρ.i 1).toNat=ρ.i 10;rw [show (256-ρ.i 1).toNat=0 by omega]
  rfl
 ·have hd:decide (ρ.i 1<256)=false:=hd (.lt (.var 1) (.lit 256),false) (by simp)
  have hd:=of_decide_eq_false hd;rw [oZ hG h1];show cyF _ (ρ.i 11) (ρ.i 0) (ρ.i 2) (ρ.i 1).toNat (256-ρ.i 1).toNat=ρ.i 11;rw [show (256-ρ.i 1).toNat=0 by omega]
  rfl
 ·have hd:decide (ρ.i 1<256)=true:=hd (.lt (.var 1) (.lit 256),true) (by simp)
  have hd:=of_decide_eq_true hd;rw [(fS hG h1 _ _ _ _).1,cyN,(fS hG h1 _ _ _ _).1];exact step pkS 20 (ρ.i 10) _ (b 20 (by decide) (by decide)) hd
 ·have hd:decide (ρ.i 1<256)=true:=hd (.lt (.var 1) (.lit 256),true) (by simp)
  have hd:=of_decide_eq_true hd;rw [oZ hG h1,cyN,oZ hG h1]
  match g with
  |0=>exact step pkS 20 (ρ.i 11) _ (b 20 (by decide) (by decide)) hd
  |_+1=>exact step cdS 21 (ρ.i 11) _ (b 21 (by decide) (by decide)) hd
theorem Ak{g:Nat}(hg:g<2):(cCy g).wf=true/\(lCy g).Ok PR G gh:=by
 have h:=two (p:=fun g=>yw g=true) Df DB hg
 simp only [yw,Bool.and_eq_true] at h;obtain ⟨h,hw⟩:=h;refine ⟨hw,ba.f6 (c:=lCy g) mixed (K:=⟨iC g,[]⟩) ⟨ku (xr hg) fun c hc=> ?_,fun _ h=>by cases h⟩ hw rfl (facts:=[]) (fun _ _ _ _=>aw) (Con.Ca [] (fun _ _ _ _=>aw) 12 (BC g) (fun ρ h1 h2 _=>yu hG h1 h2) h)⟩
 simp only [iC,List.mem_cons,List.not_mem_nil,or_false] at hc
 rcases hc with rfl |rfl
 ·exact qL hG.l.b hg
 ·exact Rs hG.l.b hg
end
def caP:ah:= .cells ((T.nil.set 3 (.map none)).set 4 (.map none)) 239 false 5
def cOn:Con:={g:=252,args:=[.ptr (some (0,0)),uV .i64 1],os:=[caP],bds:=[eY 1],res:= .slice none 0 0 0,os':=[caP]}
theorem Cm:(fq cOn ⟨[],[]⟩ 20 16 12&&cOn.wf)=true:=by kernel_rfl
def oth(k:Nat):Nat:=match k with
 |0=>1
 |_=>0
def nH(k i:Nat)(b:IE):T ab:=
 let r:=Nat.add (Nat.add i 1) (hL k)
 let t:=(((T.nil.set 0 (.int .i64 (.lit (xT k)))).set 1 (.int .i64 b)).set 2 (hV k (Nat.add i 1))).set 35 (.sliceS r (.lit 0) b 1 true)
 match k with
 |0=>((t.set 36 (.sliceS (Nat.add r 1) (.lit 0) (.mul b (.lit 256)) 1 true)).set 37 (.ptr (some (Nat.add r 2,0)))).set 41 (.map (some (Nat.add r 3)))
 |_=>((t.set 36 (.slice none 0 0 0)).set 37 (.ptr (some (Nat.add r 1,0)))).set 41 (.map (some (Nat.add r 2)))
def imO(k:Nat)(b I:IE):List ah:=match k with
 |0=>[.arr [.u8] I (.mul b (.lit 256)) true]
 |_=>[]
def zu(k i:Nat)(b R I M:IE):List ah:= .cells (nH k i b) 90 false 45::(hO k (Nat.add i 1) M++(.arr [.i64] R b true::(imO k b I++[caP,.map []])))
def lvI(i:Nat):ab:= .iface 44 (.ptr (some (i,0)))
def coM(M2 M1 p n:IE):IE:= .fn 115 M2 M1 (pr9 p n)
def coR(R M1 p n:IE):IE:= .fn 116 R M1 (pr9 p n)
def coI(I M1 p n:IE):IE:= .fn 117 I M1 (pr9 p n)
def cCo(k:Nat):Con:=
 let g:=oth k
 let cO:List ab:=[hV g 0,lvI (hL g),.int .i64 (.lit 0)]
 {g:=22,args:=cO++[uV .i64 5,uV .i64 6],os:=hO g 0 (.var 0)++zu k (hL g) (.var 5) (.var 12) (.var 13) (.var 1),bds:=[ak 5,ak 6],pre:=[(.lt (.var 5) (.var 6),false)],res:= .tuple cO,os':=hO g 0 (.var 0)++zu k (hL g) (.var 5) (coR (.var 12) (.var 0) (.var 6) (.var 5)) (coI (.var 13) (.var 0) (.var 6) (.var 5)) (coM (.var 1) (.var 0) (.var 6) (.var 5))}
def lCo(k:Nat):ba:={con:=cCo k,key:=5,n:=91,sl:=[0,1,4,31,32],e:= .exit 0,sl':=[0,1,4]}
def μCo:IE:= .sub (.var 5) (.var 6)
def KCo(k:Nat):Know:=⟨[oH (oth k),oU k,eE k,cOn],[lCy (oth k)]⟩
def s56:IE:= .mul (.var 5) (.lit 256)
def s66:IE:= .mul (.var 6) (.lit 256)
def qA:IE:= .quo (.sub (.add s66 (.lit 256)) (.lit 1)) (.lit 256)
def sL:IE:= .sub (.mul (.add (.var 6) (.lit 1)) (.lit 256)) s66
def qB:IE:= .quo s66 (.lit 256)
def jf(b:Bool):Dec:=match b with
 |false=>[(.lt (.var 6) (.var 5),false)]
 |true=>[(.lt (.var 6) (.var 5),true),(.lt s66 s56,true),(.lt (.sub s56 s66) (.lit 256),false),(.lt qA qB,false),(.lt qA (.add qB (.lit 1)),true),(.lt s66 (.lit 0),false),(.lt s56 (.add s66 (.lit 256)),false),(.lt sL (.lit 256),false),(.lt (.lit 256) sL,false)]
def tCo(k:Nat)(b:Bool):Out:=(lCo k).tree PR (KCo k) 20 aG no' 16 (jf b) μCo
end
end Go.Proofs.YtpdhneemedlgaaaGreat

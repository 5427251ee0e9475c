/- Part Rs1. No condition. -/
import Derived.Test.YtbhlmedfhilkbaaGreatSp7
import Derived.Test.YtbhlmedfhilkbaaGreatRsQ
set_option linter.all false
namespace Go.Proofs.YtbhlmedfhilkbaaGreat
open Go Go.Sx
set_option maxRecDepth 1000000
noncomputable section
def σIn(R d:Int):Nat->IE:=fun i=>match i with
 |24=> .lit R
 |28=> .sub (.var 28) (.lit d)
 |25=> .sub (.var 25) (.lit d)
 |i=> .var i
def aj6:List Nat:=[0,90,3,2,40,41,26,42,43]
def alq:IE:= .wrap .u32 (.fn 0 (.var 24) (.var 28) (.lit 0))
def kIn:Rnd->List (IE×Nat)
 | .d2=>[(alq,64),(bL,65)]
 |_=>[(bL,65)]
def ajj(coh:Bool)(r:Rnd):List IE:=match r.next coh with
 |some σ=>aj6.map σ
 |none=>[]
def ag8(coh:Bool):List IE:=fS coh::xO coh::cy coh::nk coh (tiE coh) (.lit 0)::aeq coh
def aih(r:Rnd)(l:List IE):Bool:=notKey (kIn r) (.done l)&&ael (kIn r) aj6 (.done l)
theorem al6:([true,false].all fun coh=>aih .A (ag8 coh)&&ae0.all fun r=>aih r (ajj coh r))=true:=by kernel_rfl
theorem alb(coh:Bool):aih .A (ag8 coh)=true/\ ∀r∈ae0,aih r (ajj coh r)=true:=by
 have h:=List.all_eq_true.1 al6 coh (by cases coh<;>simp)
 simp only [Bool.and_eq_true,List.all_eq_true] at h;exact h
theorem amv{ρ:Env}{R d:Int}:bL.ev (ρ.rep (σIn R d))=bL.ev ρ:=by
 show (ρ.i 25-d)-(ρ.i 28-d)=ρ.i 25-ρ.i 28;omega
theorem ajo{ρ:Env}{R d:Int}{r:Rnd}{l:List IE}(h:aih r l=true)(h2:r= .d2->alq.ev (ρ.rep (σIn R d))=alq.ev ρ): ∀e∈l,e.ev (ρ.rep (σIn R d))=e.ev ρ:=by
 obtain ⟨k1,k2⟩:=aa h
 have:=RV.done.inj (agl (l:=kIn r) (W:=aj6) (ρ:=ρ.rep (σIn R d)) (ρ':=ρ) (by cases r<;>decide) k1 k2 rfl (fun x hx=>by
  have hl: ∀x∈[(bL,65)],x.1.ev (ρ.rep (σIn R d))=x.1.ev ρ:=fun x hx=>by
   rw [List.mem_singleton.1 hx];exact amv
  cases r with
  |d2=>
   rcases List.mem_cons.1 hx with rfl |hx
   ·exact h2 rfl
   ·exact hl x hx
  |_=>exact hl x hx) fun i hi=>by
  have hi:i=0\/i=90\/i=3\/i=2\/i=40\/i=41\/i=26\/i=42\/i=43:=by
   unfold bR at hi
   simpa [aj6] using hi
  rcases hi with rfl |rfl |rfl |rfl |rfl |rfl |rfl |rfl |rfl<;>rfl)
 exact List.map_inj_left.1 this
theorem akx{ρ:Env}(coh:Bool){R d:Int}{r r':Rnd}(hw:r.when coh ρ)(hw':r'.when coh (ρ.rep (σIn R d))):r'=r:=by
 have e:=ajo (ρ:=ρ) (R:=R) (d:=d) (alb coh).1 (fun h=>by cases h)
 have e0:=e (cy coh) (by simp [ag8])
 have e1:=e (tkE coh) (by simp [ag8,aeq])
 have e2:=e (tiE coh) (by simp [ag8,aeq])
 have e3:=e (eR coh 18) (by simp [ag8,aeq])
 have e4:=e (jU coh) (by simp [ag8,aeq])
 have i3:(ρ.rep (σIn R d)).i 3=ρ.i 3:=rfl;have i26:(ρ.rep (σIn R d)).i 26=ρ.i 26:=rfl;have i28:(ρ.rep (σIn R d)).i 28=ρ.i 28-d:=rfl;have i25:(ρ.rep (σIn R d)).i 25=ρ.i 25-d:=rfl
 cases r<;>cases r'<;>first
  |rfl
  | (exfalso; simp only [Rnd.when,B5,e0,e1,e2,e3,e4,i3,i26,i28,i25] at hw hw'; omega)
structure SameIn (G:Nat->Int->Int->Int->Int) (coh:Bool) (d:Int) (X Y:Int):Prop where
 st:aeg (G (FB coh).KR X 0 0) (G (FB coh).KR Y 0 0)
 m:G (FB coh).KV X 0 24=G (FB coh).KV Y 0 24
 t:G (FB coh).KV X 0 28=G (FB coh).KV Y 0 28
 oc:G (FB coh).KV X 0 32=G (FB coh).KV Y 0 32
 ec:G (FB coh).KV X 0 33=G (FB coh).KV Y 0 33
 s:DX G (FB coh) X .u8 25=DX G (FB coh) Y .u8 25+d
 o:DX G (FB coh) X .u32 27=DX G (FB coh) Y .u32 27
 n:DX G (FB coh) X .u32 29=DX G (FB coh) Y .u32 29
def InP(G:Nat->Int->Int->Int->Int)(coh:Bool)(ρ:Env):Prop:= ∀R d:Int,0<=d->d<=ρ.i 28->(∀ i:Int,ρ.i 28<=i->i<ρ.i 25->IntKind.u32.wrap (ag R (i-d))=IntKind.u32.wrap (ag (ρ.i 24) i))->SameIn G coh d ((FB coh).x.ev ρ) ((FB coh).x.ev (ρ.rep (σIn R d)))
section
variable{G:Nat->Int->Int->Int->Int}(hG:RunG G)
include hG
theorem aj5{coh:Bool}{X Y S m s u u' o t n oc ec d:Int}(h:(FB coh).is G X (qm S aW 0++[m,s,u,o,t,n,0,0,oc,ec]))(h':(FB coh).is G Y (qm S aW 0++[m,s-d,u',o,t,n,0,0,oc,ec]))(hs:0<=s/\s<=8)(hd:0<=d/\d<=s)(ho:0<=o/\o<=100000000)(hn:0<=n/\n<=100000000):SameIn G coh d X Y:=by
 obtain ⟨e90,e0,e28,e41,e26,e43,e40,e42⟩:=afj hG h hs ho hn;obtain ⟨f90,f0,f28,f41,f26,f43,f40,f42⟩:=afj hG h' (by omega) ho hn
 exact ⟨e90.symm.trans f90,e0.trans f0.symm,e26.trans f26.symm,e40.trans f40.symm,e42.trans f42.symm,by rw [e28,f28]; omega,e41.trans f41.symm,e43.trans f43.symm⟩
theorem ala(coh:Bool): ∀ρ:Env,ρ.std G gh->Okb ρ->InP G coh ρ:=by
 refine NL hG (coh:=coh) (P:=fun ρ=>InP G coh ρ) (fun ρ r h1 h2 h3 hw hn hs=> ?_) fun ρ r σ kk h1 h2 h3 hw hn ha h4 h5 h6 ih=> ?_
 ·intro R d hd0 hd hr;have h1a:(ρ.rep (σIn R d)).std G gh:=h1;have hs8:0<=ρ.i 28/\ρ.i 28<=8:=⟨h2.s.1,by have:=h2.s.2; have:=h2.t; omega⟩
  obtain ⟨r',hw',hs'⟩:=Hk hG h1a coh;have hrr:=akx coh hw hw';subst hrr;rw [hn] at hs';have e:=ajo (ρ:=ρ) (R:=R) (d:=d) (alb coh).1 (fun h=>by cases h)
  have er:=e (xO coh) (by simp [ag8])
  have em:=e (fS coh) (by simp [ag8])
  cases r' with
  |A=>
   have x1:=ae9 hG h1 coh hw;have x2:=ae9 hG h1a coh hw';exact aj5 hG x1 x2 hs8 ⟨hd0,hd⟩ h2.o h2.n
  |L=>
   have x1:(FB coh).is G ((FB coh).x.ev ρ) ((zE coh++[fS coh,.var 28,bL,.var 41,kG,.var 43,.lit 0,.lit 0,.var 40,.var 42]).map (·.ev ρ)):=hs;have x2:(FB coh).is G ((FB coh).x.ev (ρ.rep (σIn R d))) ((zE coh++[fS coh,.var 28,bL,.var 41,kG,.var 43,.lit 0,.lit 0,.var 40,.var 42]).map (·.ev (ρ.rep (σIn R d)))):=hs';rw [List.map_append,aem coh] at x1 x2;have x1:(FB coh).is G ((FB coh).x.ev ρ) (qm ((xO coh).ev ρ) aW 0++[(fS coh).ev ρ,ρ.i 28,bL.ev ρ,ρ.i 41,kG.ev ρ,ρ.i 43,0,0,ρ.i 40,ρ.i 42]):=x1;have x2:(FB coh).is G ((FB coh).x.ev (ρ.rep (σIn R d))) (qm ((xO coh).ev (ρ.rep (σIn R d))) aW 0++[(fS coh).ev (ρ.rep (σIn R d)),ρ.i 28-d,bL.ev (ρ.rep (σIn R d)),ρ.i 41,kG.ev ρ,ρ.i 43,0,0,ρ.i 40,ρ.i 42]):=x2;rw [er,em] at x2;exact aj5 hG x1 x2 hs8 ⟨hd0,hd⟩ h2.o h2.n
  |S=>
   have x1:(FB coh).is G ((FB coh).x.ev ρ) ((aep coh).map (·.ev ρ)):=hs;have x2:(FB coh).is G ((FB coh).x.ev (ρ.rep (σIn R d))) ((aep coh).map (·.ev (ρ.rep (σIn R d)))):=hs';unfold aep at x1 x2;rw [List.map_append,aem coh] at x1 x2;have x1:(FB coh).is G ((FB coh).x.ev ρ) (qm ((xO coh).ev ρ) aW 0++[(fS coh).ev ρ,ρ.i 28,bL.ev ρ,ρ.i 41,1,ρ.i 43+1,0,0,ρ.i 40,(nk coh (tiE coh) (.lit 0)).ev ρ]):=x1;have x2:(FB coh).is G ((FB coh).x.ev (ρ.rep (σIn R d))) (qm ((xO coh).ev (ρ.rep (σIn R d))) aW 0++[(fS coh).ev (ρ.rep (σIn R d)),ρ.i 28-d,bL.ev (ρ.rep (σIn R d)),ρ.i 41,1,ρ.i 43+1,0,0,ρ.i 40,(nk coh (tiE coh) (.lit 0)).ev (ρ.rep (σIn R d))]):=x2;rw [er,em,e (nk coh (tiE coh) (.lit 0)) (by simp [ag8])] at x2
   have hmu:1<=muN ρ:=by
    obtain ⟨g,t,w,_⟩:=hw;have:=h2.r;have:=h2.z;unfold muN;omega
   have hpn:=h2.pn;have hn2:=h2.n;exact aj5 hG x1 x2 hs8 ⟨hd0,hd⟩ h2.o ⟨by omega,by omega⟩
  |_=>cases hn
 ·intro R d hd0 hd hr;have h1a:(ρ.rep (σIn R d)).std G gh:=h1;obtain ⟨r',hw',hs'⟩:=Hk hG h1a coh;have hrr:=akx coh hw hw';subst hrr;rw [hn] at hs';have hs':(FB coh).alike G ((FB coh).x.ev (ρ.rep (σIn R d))) ((FB coh).x.ev ((ρ.rep (σIn R d)).rep σ)):=hs';have hmem:r'∈ae0:=by cases r'<;>first |cases hn; done |simp [ae0]
  have ex:=ajo (ρ:=ρ) (R:=R) (d:=d) ((alb coh).2 r' hmem) (fun h=>by
   subst h;obtain ⟨_,_,_,_,_,h28⟩:=hw;exact hr (ρ.i 28) (Int.le_refl _) h28)
  have enx:ajj coh r'=aj6.map σ:=by unfold ajj; rw [hn]
  rw [enx] at ex;have h1c:((ρ.rep (σIn R d)).rep σ).std G gh:=h1;have h1d:((ρ.rep σ).rep (σIn R d)).std G gh:=h1
  have i28:(ρ.rep σ).i 28=ρ.i 28\/(ρ.rep σ).i 28=ρ.i 28+1:=by
   cases r'<;>cases hn
   ·exact .inl rfl
   ·exact .inr rfl
   ·exact .inl rfl
   ·exact .inl rfl
   ·exact .inl rfl
  have i25:(ρ.rep σ).i 25=ρ.i 25:=by cases r'<;>cases hn<;>rfl
  have i24:(ρ.rep σ).i 24=ρ.i 24:=by cases r'<;>cases hn<;>rfl
  have eXrs:(FB coh).x.ev ((ρ.rep (σIn R d)).rep σ)=(FB coh).x.ev ((ρ.rep σ).rep (σIn R d)):=afa hG h1c h1d coh fun v hv=>by
   by_cases c24:v=24
   ·subst c24;cases r'<;>cases hn<;>rfl
   by_cases c28:v=28
   ·subst c28;cases r'<;>cases hn
    ·rfl
    ·show ρ.i 28-d+1=ρ.i 28+1-d;omega
    ·rfl
    ·rfl
    ·rfl
   by_cases c25:v=25
   ·subst c25;cases r'<;>cases hn<;>rfl
   have hv':v∈aj6:=by
    simp only [aj6,List.mem_cons,List.not_mem_nil,or_false] at hv ⊢;omega
   have q:((ρ.rep σ).rep (σIn R d)).i v=(σ v).ev ρ:=by
    show (σIn _ _ v).ev (ρ.rep σ)=_;unfold σIn;split
    ·exact absurd rfl c24
    ·exact absurd rfl c28
    ·exact absurd rfl c25
    ·rfl
   rw [q];exact ex _ (List.mem_map.2 ⟨v,hv',rfl⟩)
  have this:=ih R d hd0 (by omega) (fun i q1 q2=>by
   rw [i24];exact hr i (by omega) (by rw [i25] at q2; exact q2))
  rw [<- eXrs] at this;obtain ⟨s1,s2,s3,s4,s5,s6,sq7,sq8⟩:=this;refine ⟨?_,?_,?_,?_,?_,?_,?_,?_⟩
  ·rw [ha.1,hs'.1]; exact s1
  ·rw [Ff ha,Ff hs']; exact s2
  ·rw [Ff ha,Ff hs']; exact s3
  ·rw [Ff ha,Ff hs']; exact s4
  ·rw [Ff ha,Ff hs']; exact s5
  ·rw [iM ha,iM hs']; exact s6
  ·rw [iM ha,iM hs']; exact sq7
  ·rw [iM ha,iM hs']; exact sq8
end
structure OverN (M Mbase Mk:Int) (p:Nat):Prop where
 ok:bn Mk
 n:mN Mk=6
 coh:aP Mk=aP M
 d: ∀a,a<1536->mD Mk a=if a<256*p then mD M a else mD Mbase a
 r: ∀q,q<6->mR Mk q=if q<p then mR M q else mR Mbase q
theorem aj7{M Mbase:Int}(h0:bn Mbase)(n0:mN Mbase=6)(hc:aP Mbase=aP M):OverN M Mbase Mbase 0:=
 ⟨h0,n0,hc,fun a _=>by rw [if_neg (by omega)],fun q _=>by rw [if_neg (by omega)]⟩
theorem akr{M Mbase Mk row:Int}{p:Nat}(h:OverN M Mbase Mk p)(hm:bn M)(hn:mN M=6)(hp:p<6)(hrow: ∀j,j<256->ag row (j:Nat)=mD M (256*p+j)):OverN M Mbase (prS (poF Mk (256*p:Nat) row 0 256) p (mR M p)) (p+1):=by
 have e6:(mN M).toNat=6:=by rw [hn]; rfl
 have k6:(mN Mk).toNat=6:=by rw [h.n]; rfl
 have x:=AY (a:=(256*p:Nat)) (d:=row) (fun i=>(D1 _ _).1) 256 0 Mk (gN Mk) (bN.refl h.ok)
 generalize poF Mk (256*p:Nat) row 0 256=M' at*;have n':mN M'=6:=x.n.trans h.n;have mem6:(mN M').toNat=6:=by rw [n']; rfl
 have hr:=hm.r p (by omega)
 have e:prS M' p (mR M p)=aD M' ((4*p+2:Nat):Int) (mR M p):=by
  unfold prS;rw [if_pos ⟨by omega,by rw [n']; omega⟩,Wp hr,show ((p:Int)*4+2)=((4*p+2:Nat):Int) by omega]
 rw [e];have y:=KC (r:=mR M p) x.ok (by rw [mem6]; exact hp) hr
 generalize aD M' ((4*p+2:Nat):Int) (mR M p)=M2 at*;refine ⟨y.ok,y.n.trans n',(y.coh.trans x.coh).trans h.coh,fun a ha=> ?_,fun q hq=> ?_⟩
 ·rw [y.d a (by rw [mem6]; omega),dv (by rw [mem6]; omega),x.d a (by rw [k6]; omega),JB 256 0 _ (by omega) (by rw [h.n]; omega) a]
  by_cases h1:256*p+0<=a/\a<256*p+(0+256)
  ·rw [if_pos h1,if_pos (by omega),hrow (a-256*p) (by omega),show 256*p+(a-256*p)=a by omega]
   exact cZ (hm.byte (by omega)).1
  ·rw [if_neg h1,dv (by rw [k6]; omega),h.d a ha]
   by_cases h2:a<256*p
   ·rw [if_pos h2,if_pos (by omega)]
   ·rw [if_neg h2,if_neg (by omega)]
 ·rw [y.r q (by rw [mem6]; exact hq),cF ⟨hr.1,by omega⟩]
  by_cases h1:q=p
  ·subst h1;rw [if_pos rfl,if_pos (by omega)]
  ·rw [if_neg h1,fK (by rw [mem6]; exact hq),x.r q (by rw [k6]; exact hq),fK (by rw [k6]; exact hq),h.r q hq]
   by_cases h2:q<p
   ·rw [if_pos h2,if_pos (by omega)]
   ·rw [if_neg h2,if_neg (by omega)]
structure OverI (M Mk:Int) (p:Nat):Prop where
 ok:bn Mk
 n:mN Mk=6
 coh:aP Mk=false
 d: ∀a,a<1536->mD Mk a=mD M a
 r: ∀q,q<6->mR Mk q=mR M q
 c: ∀a,a<256*p->mC Mk a=mC M a
theorem aj4{M Mk row:Int}{p:Nat}(h:OverI M Mk p)(hm:bn M)(hn:mN M=6)(hc:aP M=false)(hp:p<6)(hrow: ∀j,j<256->ag row (j:Nat)=mC M (256*p+j)):OverI M (scS Mk p row 256) (p+1):=by
 have e6:(mN M).toNat=6:=by rw [hn]; rfl
 have k6:(mN Mk).toNat=6:=by rw [h.n]; rfl
 have e:scS Mk p row 256=fP Mk (ixC p) (fun j=>IntKind.u8.wrap (ag row j)) 256:=by
  unfold scS;rw [if_pos ⟨⟨by omega,by rw [h.n]; omega⟩,h.coh⟩,Int.toNat_natCast]
  rfl
 rw [e]
 have bw: ∀j:Nat,fE (IntKind.u8.wrap (ag row j)):=fun j=>by
  obtain ⟨a,b⟩:=eJ (ag row j);unfold fE;omega
 have x:=lJ (g:=fun j=>IntKind.u8.wrap (ag row j)) (n:=256) h.ok h.coh (by rw [k6]; exact hp) bw (Nat.le_refl _) (C:=(rowOf ((List.range 256).map fun j=>IntKind.u8.wrap (ag row (j:Nat))):Nat)) fun j hj=>by
  rw [if_pos hj];exact cP _ j _ (by simp [hj]) (bw j)
 generalize fP Mk (ixC p) (fun j=>IntKind.u8.wrap (ag row j)) 256=M' at*
 have part: ∀a,a<1536->256*(a / 256)+a % 256=a/\a / 256<6/\a % 256<256:=fun a ha=>⟨Nat.div_add_mod a 256,by omega,Nat.mod_lt _ (by decide)⟩
 have n':mN M'=6:=x.n.trans h.n;have mem6:(mN M').toNat=6:=by rw [n']; rfl
 have eD: ∀a,a<1536->mD M' a=mD Mk a:=fun a ha=>by
  obtain ⟨e1,e2,e3⟩:=part a ha;rw [<- e1]
  by_cases h:a / 256=p
  ·rw [h,x.d _ e3,fe _ _ _ e3]
  ·exact (x.other _ _ (by rw [k6]; exact e2) h e3).1
 have eC: ∀a,a<1536->mC M' a=if a / 256=p then mC M a else mC Mk a:=fun a ha=>by
  obtain ⟨e1,e2,e3⟩:=part a ha
  by_cases hq:a / 256=p
  ·rw [if_pos hq];have e4:256*p+a % 256=a:=by omega
   have:=x.c h.coh (a % 256) e3;rw [e4] at this;rw [this,cP _ (a % 256) (IntKind.u8.wrap (ag row ((a % 256:Nat):Int))) (by simp [e3]) (bw _),hrow _ e3,e4]
   exact cZ ((hm.byte (by omega)).2 hc)
  ·rw [if_neg hq];have:=(x.other (a / 256) (a % 256) (by rw [k6]; exact e2) hq e3).2 h.coh
   rw [e1] at this;exact this
 have eR: ∀q,q<6->mR M' q=mR Mk q:=fun q hq=>by
  by_cases h:q=p
  ·subst h; exact x.r.1
  ·exact x.rights q (by rw [k6]; exact hq) h
 refine ⟨⟨by rw [n']; decide,fun q j hq hj=> ?_,fun _ q j hq hj=> ?_,fun q hq=> ?_,x.k⟩,n',x.coh.trans h.coh,fun a ha=>by rw [eD a ha,h.d a ha],fun q hq=>by rw [eR q hq,h.r q hq],fun a ha=> ?_⟩
 ·rw [mem6] at hq;rw [eD _ (by omega)]
  exact h.ok.d q j (by omega) hj
 ·rw [mem6] at hq;rw [eC _ (by omega)]
  split
  ·exact hm.c hc q j (by omega) hj
  ·exact h.ok.c h.coh q j (by omega) hj
 ·rw [mem6] at hq;rw [eR q hq];exact h.ok.r q (by omega)
 ·rw [eC a (by omega)]
  split
  ·rfl
  ·exact h.c a (by omega)
theorem alr{M Mk:Int}(h:OverI M Mk 6)(hm:bn M)(hn:mN M=6)(hc:aP M=false):Mk=M:=by
 have e:(mN M).toNat=6:=by rw [hn]; rfl
 refine hm.ext h.ok (by rw [h.n,hn]) (by rw [h.coh,hc]) (fun a ha=>h.d a (by omega)) (fun _ a ha=>h.c a (by omega)) fun q hq=>h.r q (by omega)
section
variable{G:Nat->Int->Int->Int->Int}(hG:cX G)
include hG
theorem alp{ρ:Env}(h1:ρ.std G gh){B:IE}(hm:bn (ρ.i 0))(hn:mN (ρ.i 0)=6)(h0:bn (B.ev ρ))(n0:mN (B.ev ρ)=6)(hc:aP (B.ev ρ)=aP (ρ.i 0)): ∀p,p<=6->OverN (ρ.i 0) (B.ev ρ) ((reK B p).ev ρ) p:=by
 intro p
 induction p with
 |zero=>intro _; exact aj7 h0 n0 hc
 |succ p ih=>
  intro hp
  have e:(reK B (p+1)).ev ρ=prS (poF ((reK B p).ev ρ) (256*p:Nat) ((pgS p).ev ρ) 0 256) p (mR (ρ.i 0) p):=by
   show (IE.fn 31 (puE (reK B p) p) (.lit p) (rgS p)).ev ρ=_;rw [Jm hG h1,Ie hG h1,Dk hG h1 hm hn (by omega)]
  rw [e];exact akr (ih (by omega)) hm hn (by omega) fun j hj=>(me hG h1 hn (by omega) j hj).1
theorem alv{ρ:Env}(h1:ρ.std G gh){B:IE}(hm:bn (ρ.i 0))(hn:mN (ρ.i 0)=6)(hk:aP (ρ.i 0)=true)(h0:bn (B.ev ρ))(n0:mN (B.ev ρ)=6)(hc:aP (B.ev ρ)=aP (ρ.i 0)):(reK B 6).ev ρ=ρ.i 0:=by
 have h:=alp hG h1 hm hn h0 n0 hc 6 (Nat.le_refl _);have e:(mN (ρ.i 0)).toNat=6:=by rw [hn]; rfl
 refine hm.ext h.ok (by rw [h.n,hn]) h.coh (fun a ha=> ?_) (fun hc _ _=>by rw [hk] at hc; cases hc) fun q hq=> ?_
 ·rw [h.d a (by omega),if_pos (by omega)]
 ·rw [h.r q (by omega),if_pos (by omega)]
theorem alh{ρ:Env}(h1:ρ.std G gh){B:IE}(hm:bn (ρ.i 0))(hn:mN (ρ.i 0)=6)(hk:aP (ρ.i 0)=false)(h0:bn (B.ev ρ))(n0:mN (B.ev ρ)=6)(hc:aP (B.ev ρ)=aP (ρ.i 0)):(reQ (reK B 6) 6).ev ρ=ρ.i 0:=by
 have h:=alp hG h1 hm hn h0 n0 hc 6 (Nat.le_refl _)
 have key: ∀p,p<=6->OverI (ρ.i 0) ((reQ (reK B 6) p).ev ρ) p:=by
  intro p
  induction p with
  |zero=>
   intro _;exact ⟨h.ok,h.n,h.coh.trans hk,fun a ha=>by rw [show (reQ (reK B 6) 0).ev ρ=(reK B 6).ev ρ from rfl,h.d a ha,if_pos (by omega)],fun q hq=>by rw [show (reQ (reK B 6) 0).ev ρ=(reK B 6).ev ρ from rfl,h.r q hq,if_pos (by omega)],fun a ha=>absurd ha (by omega)⟩
  |succ p ih=>
   intro hp
   have e:(reQ (reK B 6) (p+1)).ev ρ=scS ((reQ (reK B 6) p).ev ρ) p ((imS p).ev ρ) 256:=by
    show (IE.fn 34 (reQ (reK B 6) p) (.lit p) (.fn 9 (imS p) (.lit 256) (.lit 0))).ev ρ=_;rw [Qg hG h1]
   rw [e];exact aj4 (ih (by omega)) hm hn hk (by omega) fun j hj=>(me hG h1 hn (by omega) j hj).2
 exact alr (key 6 (Nat.le_refl _)) hm hn hk
end
def anj(coh:Bool):Int:=match coh with
 |true=>15095849699286165408966521133562456214914128896932744134787780931657604648402594362074272479627153657520503785676723273752397774668264266438885892889971287760032036290689
 |false=>3512569809102693126085745049994737638650304648071532744033580310545751101013316106357086845596155160555539377316706139638516309408719238959662943622350390442326587580928776295842741897448999139020285561154085432422142004732770700978111819669665666245812436968830017212606224753328742222963929928937604809621082166435015502020435396323945428880932684265054168678401
def akk(m:IE)(p r:Int):IE:= .fn 31 m (.lit p) (.lit r)
def ano(m:IE)(a d n:Int):IE:= .fn 38 m (.fn 9 (.lit a) (.lit d) (.lit 0)) (.fn 9 (.lit 0) (.lit n) (.lit 0))
def ajl(coh:Bool):IE:=akk (akk (akk (akk (akk (akk (.fn 33 (.fn 33 (ano (ano (.fn 37 (.lit 6) (.lit (b2 coh)) (.lit 0)) 256 0 0) 512 (anj coh) (match coh with |true=>8 |false=>16)) (.lit 256) (.lit 0)) (.lit 512) (.lit 0)) 0 0) 1 7) 2 5) 3 3) 4 3) 5 1
def anh:List ab:=[uL 256,uL 0,uL 800,uL 900,uL 4294967295,uL 0,uL 1,uL 2,uL 1200,uL 0,uL 0,uL 0,uL 0,uL 0,uL 0,uL 0,uL 0,uL 0,uL 512,uL 0,uL 0,uL 0,.int .i64 (.lit 1),.int .i64 (.lit 0)]
def an4:ab:= .agg [.int .i64 (.lit 1),.int .i64 (.lit 1),.int .i64 (.lit 1),.int .i64 (.lit 1)]
def ann(l:List ab):ah:= .cells (aX l 0) 55 true 5
def ahu(coh:Bool):Con:={g:=14,args:=[.int .i64 (.lit (match coh with |true=>1 |false=>2)),.slice none 0 0 0,an4,.slice none 0 0 0],os:=[],res:= .ptr (some (0,0)),os':=match coh with
 |true=>[ann [.ptr (some (1,0)),.ptr none],nd anh 2,.ghost 2 [ajl true] .nil]
 |false=>[ann [.ptr none,.ptr (some (1,0))],pj anh 2,.ghost 2 [ajl false] .nil]}
def kL0(coh:Bool):Know:=match coh with
 |true=>GG
 |false=>Jl
theorem ak6:([true,false].all fun coh=>fq (ahu coh) (kL0 coh) 40 12 12&&((ahu coh).wf&&Gp coh 40 (ajl coh)))=true:=by kernel_rfl
def akc(e:IE):BE:= .eq (.fn 148 e (.lit 0) (.lit 0)) (.lit 1)
def amb(e:IE):BE×Bool:=(.eq (.fn 0 e (.lit 3) (.lit 0)) (.lit 6),true)
def al9(e:IE):BE:= .eq (.fn 0 e (.lit 7) (.lit 0)) (.lit 1)
def in3:ah:= .cells (aX [.int .u32 (.lit 1),.int .u32 (.lit 2),.int .u32 (.lit 3)] 0) Zp true 3
def reP(coh:Bool):Dec:=n6::(iQ,coh)::amb (.var 1)::(al9 (.var 1),coh)::(akc (.var 0),true)::(ak1 coh eS++anl eS)
def reB:List (Nat×Int×Int):=[(25,0,8),(41,0,60000000)]
def ald:Con:={g:=44,args:=[pm,zW 1 mz (sl6 4) (sl6 5) (.slice none 0 0 0) (.sliceA 6 (.var 25) 1) (.sliceA 7 (.var 41) 1)],os:=[kH (.iface kPT (.ptr (some (1,0)))) (.slice (some (3,0)) 3 3 1) (.slice none 0 0 0) (.bool (.lit false)),sW ZZ 2,.ghost 0 [.var 1] .nil,in3,D6,uG,inN,gL],pre:=reP true,bds:=reB,res:= .int .i64 (.lit 0),os':=[kH (.iface kPT (.ptr (some (1,0)))) (.sliceA 8 (.var 25) 1) (.sliceA 9 (.var 41) 1) (.bool (.lit false)),sW mz 2,.ghost 0 [.var 0] .nil,in3,D6,uG,inN,gL,inN,gL]}
def amm:Con:={g:=44,args:=[pm,zW 2 mz (sl6 3) (sl6 4) (sl6 5) (.sliceA 6 (.var 25) 1) (.sliceA 7 (.var 41) 1)],os:=[kH (.iface qPT (.ptr (some (1,0)))) (.slice (some (2,0)) 3 3 1) (.slice none 0 0 0) (.bool (.lit false)),.ghost 1 [.var 1] (aX ZZ 2),in3,D6,uG,KM,inN,gL],pre:=reP false,bds:=reB,res:= .int .i64 (.lit 0),os':=[kH (.iface qPT (.ptr (some (1,0)))) (.sliceA 8 (.var 25) 1) (.sliceA 9 (.var 41) 1) (.bool (.lit false)),.ghost 1 [.var 0] (aX mz 2),in3,D6,uG,KM,inN,gL,inN,gL]}
def ajn(coh:Bool):Con:=match coh with
 |true=>ald
 |false=>amm
def aly(coh:Bool):Know:=match coh with
 |true=>⟨[ru 0,oU 0,eE 0,gu],[]⟩
 |false=>⟨[ru 1,oU 1,eE 1,oV 1,gu],[]⟩
def obZ(coh:Bool):List (Dec×IE×IE):=match coh with
 |true=>[([],.var 0,reK (.var 1) 6)]
 |false=>[([],.var 0,reQ (reK (.var 1) 6) 6)]
def amk(coh:Bool):Bool:=((ajn coh).tree PR (aly coh) 20 aG no' 12 []).all ((ajn coh).leaf (qX (bdL (ajn coh).bds) 12 (obZ coh))) (ajn coh).pre&&((ajn coh).wf&&(aly coh).cons.all Con.wf)
theorem alx:(amk true&&amk false)=true:=by kernel_rfl
def xCu:IE:=uS [.var 0,.var 90,.var 3,.lit 0,.var 24,.var 28,.var 25,.var 40,.var 41,.lit 0,.lit 0,.lit 0]
def dCu(coh:Bool)(k:IntKind)(j:Nat):IE:=dX (FB coh).KR xCu k j
def vCu(coh:Bool)(j:Nat):IE:=vX (FB coh).KV xCu j
def ak2(coh:Bool):IE:= .rem (dCu coh .u8 25) (.lit 9)
def ai6(coh:Bool):IE:= .sel true (.var 25) (ak2 coh) (.var 25) (ak2 coh)
def alc(coh:Bool):IE:= .add (.var 41) (.rem (.wrap .u32 (.sub (dCu coh .u32 27) (.var 41))) (.lit 1002001))
def ali(coh:Bool):IE:= .rem (dCu coh .u32 29) (.lit 1002001)
def amq(coh:Bool):IE:= .fn 1 (.fn 1 (vCu coh 24) (.lit 3) (hE 3)) (.lit 7) (hE 7)
def ani(coh:Bool):List ab:=dXL (FB coh).KR xCu aW 0
def anv(coh:Bool)(j:Nat):ab:= .sliceS j (.sub (ai6 coh) (.var 28)) (.sub (.var 25) (ai6 coh)) 1 false
def cuB:List (Nat×Int×Int):=[(3,0,1000),(28,0,8),(25,0,8),(41,0,50000000)]
def akz:ab:= .bool (.lit false)
def an3:Con:={g:=24,args:=Tx,os:=[kH (.iface qPT (.ptr (some (1,0)))) (.sliceS 2 (.lit 0) bL 1 false) (im 3) akz,dZ 1 (.var 0),HO,gL],bds:=cuB,pre:=Co,res:= .sliceA 5 (ali false) 27,os':=[kH (.iface qPT (.ptr (some (1,0)))) (anv false 2) (.sliceA 4 (alc false) 1) (.bool (.eq (vCu false 28) (.lit 1))),.ghost 1 [amq false] (aX (ani false) 2),HO,ld,.arr [.u32] (vCu false 32) (alc false) true,.arr Df (vCu false 33) (ali false) true]}
def an2:Con:={g:=24,args:=Tx,os:=[kH (.iface kPT (.ptr (some (1,0)))) (.sliceS 3 (.lit 0) bL 1 false) (im 4) akz,nH (b9 (.var 90)) 2,dZ 0 (.var 0),HO,gL],bds:=cuB,pre:=Co,res:= .sliceA 6 (ali true) 27,os':=[kH (.iface kPT (.ptr (some (1,0)))) (anv true 3) (.sliceA 5 (alc true) 1) (.bool (.eq (vCu true 28) (.lit 1))),nH (ani true) 2,.ghost 0 [amq true] .nil,HO,ld,.arr [.u32] (vCu true 32) (alc true) true,.arr Df (vCu true 33) (ali true) true]}
def cCu(coh:Bool):Con:=match coh with
 |true=>an2
 |false=>an3
def lCu(coh:Bool):List Con:=match coh with
 |true=>[cBK]
 |false=>[cBQ]
def aht:IE:=uS [.var 0,.var 90,.var 3,.lit 0,.fn 2 (.var 24) (.var 28) bL,.lit 0,bL,.var 40,.var 41,.lit 0,.lit 0,.lit 0]
def ait(coh:Bool)(k:IntKind)(j:Nat):IE:=dX (FB coh).KR aht k j
def ajm(coh:Bool)(j:Nat):IE:=vX (FB coh).KV aht j
def akw(coh:Bool):IE:= .sel true bL (.rem (ait coh .u8 25) (.lit 9)) bL (.rem (ait coh .u8 25) (.lit 9))
def ak5(coh:Bool):List (Dec×IE×IE):=([],alc coh,.add (.var 41) (.rem (.wrap .u32 (.sub (ait coh .u32 27) (.var 41))) (.lit 1002001)))::([],ali coh,.rem (ait coh .u32 29) (.lit 1002001))::([],.sel false (vCu coh 28) (.lit 1) (.lit 1) (.lit 0),.sel false (ajm coh 28) (.lit 1) (.lit 1) (.lit 0))::
 ([],vCu coh 32,ajm coh 32)::([],vCu coh 33,ajm coh 33)::([],vCu coh 24,ajm coh 24)::([],amq coh,.fn 1 (.fn 1 (ajm coh 24) (.lit 3) (hE 3)) (.lit 7) (hE 7))::([],.sub (ai6 coh) (.var 28),akw coh)::([],.sub (.var 25) (ai6 coh),.sub bL (akw coh))::(List.range 24).map fun j=>([],dCu coh (D3 j) j,ait coh (D3 j) j)
def σR(coh:Bool):Nat->IE:=fun i=>match i with
 |0=>afs coh w3
 |90=> .fn (FB coh).KR (xSQ w3) (.lit 0) (.lit 0)
 |3=> .var 4
 |28=>afg coh w3
 |40=>aeu coh w3 32
 |41=>aex coh w3
 |i=> .var i
def alz:Nat->Nat:=fun j=>j
def ais(coh:Bool):Con:={g:=(cCu coh).g,args:=subList (σR coh) alz (cCu coh).args,os:=(cCu coh).os.map (vU (σR coh) alz),bds:=spB,res:=HW (bdL spB) [] (σR coh) alz (cCu coh).res,os':=(cCu coh).os'.map (zk (bdL spB) [] (σR coh) alz)}
def cuF(coh:Bool):Dec:=[(.lt (bL.rep (σR coh)) (.lit 0),false)]
def ami(coh:Bool):List (Dec×IE×IE):=(ak5 coh).map fun o=>([],(o.2.1.rep (σR coh)).nrm (bdL spB) [],(o.2.2.rep (σR coh)).nrm (bdL spB) [])
def ang(coh:Bool):Bool:=(ah4 (ais coh) (lCu coh) (cuF coh)).all ((ais coh).leaf (qX (bdL spB) 12 (ami coh))) (cuF coh++(ais coh).pre)&&(ais coh).wf
theorem anb:(ang true&&ang false)=true:=by kernel_rfl
def σ1C:Nat->IE:=fun i=>match i with
 |26=> .lit 0
 |2=> .lit 0
 |42=> .lit 0
 |43=> .lit 0
 |i=> .var i
theorem ak0(coh:Bool)(ρ:Env):(FB coh).x.ev (ρ.rep σ1C)=xCu.ev ρ:=by
 rw [<- IE.a9];cases coh<;>rfl
theorem an5{ρ:Env}(h2:ρ.ok (bdL cuB))(hp:ρ.i 28<=ρ.i 25):Okb (ρ.rep σ1C)/\muN (ρ.rep σ1C)=ρ.i 3*1002:=by
 have hL:0<=ρ.i 3/\ρ.i 3<=1000:=h2 3 _ _ rfl;have hS:0<=ρ.i 28/\ρ.i 28<=8:=h2 28 _ _ rfl;have hT:0<=ρ.i 25/\ρ.i 25<=8:=h2 25 _ _ rfl;have hO:0<=ρ.i 41/\ρ.i 41<=50000000:=h2 41 _ _ rfl
 have em:muN (ρ.rep σ1C)=ρ.i 3*1002:=by
  show ρ.i 3*1002-0-0=_;omega
 refine ⟨{
  l:=⟨show -10000<=ρ.i 3 by omega,show ρ.i 3<=10000 by omega⟩
  r:=⟨show (0:Int)<=0 by omega,show (0:Int)<=1000 by omega⟩
  s:=⟨hS.1,hp⟩
  t:=hT.2
  o:=⟨hO.1,show ρ.i 41<=100000000 by omega⟩
  n:=⟨show (0:Int)<=0 by omega,show (0:Int)<=100000000 by omega⟩
  z:=⟨show (0:Int)<=0 by omega,show (0:Int)<=1 by omega⟩
  pn:= ?_
  po:= ?_},em⟩
 ·rw [em]; show 0+_<=_; omega
 ·rw [em]; show ρ.i 41+_<=_; omega
section
variable{G:Nat->Int->Int->Int->Int}(hG:RunG G)
include hG
theorem ak3{ρ:Env}(h1:ρ.std G gh)(h2:ρ.ok (bdL cuB))(hp:ρ.i 28<=ρ.i 25)(coh:Bool):SameIn G coh (ρ.i 28) (xCu.ev ρ) (aht.ev ρ)/\(ρ.i 28<=DX G (FB coh) (xCu.ev ρ) .u8 25/\DX G (FB coh) (xCu.ev ρ) .u8 25<=ρ.i 25):=by
 have hS:0<=ρ.i 28/\ρ.i 28<=8:=h2 28 _ _ rfl;have hT:0<=ρ.i 25/\ρ.i 25<=8:=h2 25 _ _ rfl;have h1a:(ρ.rep σ1C).std G gh:=h1;obtain ⟨ok,_⟩:=an5 h2 hp;have inv:=N7 hG coh _ h1a ok
 have inn:=ala hG coh _ h1a ok (aY (ρ.i 24) (ρ.i 28) (ρ.i 25-ρ.i 28)) (ρ.i 28) hS.1 (Int.le_refl _) (fun i q1 q2=>by
  have q1:ρ.i 28<=i:=q1;have q2:i<ρ.i 25:=q2;show IntKind.u32.wrap (ag (aY (ρ.i 24) (ρ.i 28) (ρ.i 25-ρ.i 28)) (i-ρ.i 28))=IntKind.u32.wrap (ag (ρ.i 24) i);rw [Ft hS.1 (by omega) (by omega) (by omega),show ρ.i 28+(i-ρ.i 28)=i by omega])
 have h1b:((ρ.rep σ1C).rep (σIn (aY (ρ.i 24) (ρ.i 28) (ρ.i 25-ρ.i 28)) (ρ.i 28))).std G gh:=h1;have hP:gg ρ.g:=by rw [h1.1]; exact hG.rH
 have pkx: ∀l:List IE,(uS l).ev ρ=mI (l.map (·.ev ρ)):=fun l=>by
  induction l with
  |nil=>rfl
  |cons e l ih=>
   show fnI ρ KP (e.ev ρ) ((uS l).ev ρ) 0=_;rw [ih,bY (by decide),hP]
   rfl
 have e2:(FB coh).x.ev ((ρ.rep σ1C).rep (σIn (aY (ρ.i 24) (ρ.i 28) (ρ.i 25-ρ.i 28)) (ρ.i 28)))=aht.ev ρ:=by
  unfold aht;rw [aip hG h1b,pkx];simp only [List.map_cons,List.map_nil];show mI [ρ.i 0,ρ.i 90,ρ.i 3,0,aY (ρ.i 24) (ρ.i 28) (ρ.i 25-ρ.i 28),ρ.i 28-ρ.i 28,ρ.i 25-ρ.i 28,ρ.i 40,ρ.i 41,0,0,0]=_;rw [Int.sub_self];rfl
 rw [ak0] at inv;rw [e2,ak0] at inn;exact ⟨inn,inv.s0,inv.s1⟩
theorem ame{ρ:Env}(h1:ρ.std G gh)(h2:ρ.ok (bdL cuB))(hp:ρ.i 28<=ρ.i 25)(coh:Bool):fC ρ (ak5 coh):=by
 have hS:0<=ρ.i 28/\ρ.i 28<=8:=h2 28 _ _ rfl;have hT:0<=ρ.i 25/\ρ.i 25<=8:=h2 25 _ _ rfl;obtain ⟨⟨st,km,kt,ko,ke,ks,dO,dn⟩,s0,s1⟩:=ak3 hG h1 h2 hp coh
 have v: ∀j:Nat,G (FB coh).KV (xCu.ev ρ) 0 (j:Nat)=G (FB coh).KV (aht.ev ρ) 0 (j:Nat)->(vCu coh j).ev ρ=(ajm coh j).ev ρ:=fun j h=>by
  have e1:(vCu coh j).ev ρ=G (FB coh).KV (xCu.ev ρ) 0 (j:Nat):=aew h1 coh xCu j;have e2:(ajm coh j).ev ρ=G (FB coh).KV (aht.ev ρ) 0 (j:Nat):=aew h1 coh aht j;rw [e1,e2,h]
 have d: ∀(k:IntKind) (j:Nat),DX G (FB coh) (xCu.ev ρ) k j=DX G (FB coh) (aht.ev ρ) k j->(dCu coh k j).ev ρ=(ait coh k j).ev ρ:=fun k j h=>
  (aei h1 coh xCu k j).trans (h.trans (aei h1 coh aht k j).symm)
 have e25:(dCu coh .u8 25).ev ρ=DX G (FB coh) (xCu.ev ρ) .u8 25:=aei h1 coh xCu .u8 25;have f25:(ait coh .u8 25).ev ρ=DX G (FB coh) (aht.ev ρ) .u8 25:=aei h1 coh aht .u8 25
 have a1:(ai6 coh).ev ρ=DX G (FB coh) (xCu.ev ρ) .u8 25:=by
  show aA true (ρ.i 25) (((dCu coh .u8 25).ev ρ).tmod 9) (ρ.i 25) (((dCu coh .u8 25).ev ρ).tmod 9)=_;rw [e25,pV (by omega) (by omega)]
  unfold aA;simp only [if_true];split<;>omega
 have a2:(akw coh).ev ρ=DX G (FB coh) (aht.ev ρ) .u8 25:=by
  show aA true (ρ.i 25-ρ.i 28) (((ait coh .u8 25).ev ρ).tmod 9) (ρ.i 25-ρ.i 28) (((ait coh .u8 25).ev ρ).tmod 9)=_;rw [f25,pV (by omega) (by omega)]
  unfold aA;simp only [if_true];split<;>omega
 have v24:=v 24 km;have v28:=v 28 kt;have d27:=d .u32 27 dO;have d29:=d .u32 29 dn;intro o ho _;simp only [ak5,List.mem_cons] at ho
 rcases ho with rfl |rfl |rfl |rfl |rfl |rfl |rfl |rfl |rfl |ho
 ·show ρ.i 41+(IntKind.u32.wrap ((dCu coh .u32 27).ev ρ-ρ.i 41)).tmod 1002001=ρ.i 41+(IntKind.u32.wrap ((ait coh .u32 27).ev ρ-ρ.i 41)).tmod 1002001;rw [d27]
 ·show ((dCu coh .u32 29).ev ρ).tmod 1002001=((ait coh .u32 29).ev ρ).tmod 1002001;rw [d29]
 ·show aA false ((vCu coh 28).ev ρ) 1 1 0=aA false ((ajm coh 28).ev ρ) 1 1 0;rw [v28]
 ·exact v 32 ko
 ·exact v 33 ke
 ·exact v24
 ·show aD (aD ((vCu coh 24).ev ρ) _ _) _ _=aD (aD ((ajm coh 24).ev ρ) _ _) _ _;rw [v24]
 ·show (ai6 coh).ev ρ-ρ.i 28=(akw coh).ev ρ;rw [a1,a2];omega
 ·show ρ.i 25-(ai6 coh).ev ρ=ρ.i 25-ρ.i 28-(akw coh).ev ρ;rw [a1,a2];omega
 ·obtain ⟨j,hj,rfl⟩:=List.mem_map.1 ho;have hj:=List.mem_range.1 hj;exact d (D3 j) j (st.dig hj)
theorem okR{ρ:Env}(h2:ρ.ok (bdL spB))(coh:Bool):(ρ.rep (σR coh)).ok (bdL cuB)/\(ρ.rep (σR coh)).i 28<=(ρ.rep (σR coh)).i 25:=by
 have b4:0<=ρ.i 4/\ρ.i 4<=100:=h2 4 _ _ rfl;have b25:0<=ρ.i 25/\ρ.i 25<=8:=h2 25 _ _ rfl;have e28:(ρ.rep (σR coh)).i 28=aA true (ρ.i 25) ((IntKind.u8.wrap ((IE.fn 0 (.fn (FB coh).KR (xSQ w3) (.lit 0) (.lit 0)) (.lit (.ofNat 25)) (.lit 0)).ev ρ)).tmod 9) (ρ.i 25) ((IntKind.u8.wrap ((IE.fn 0 (.fn (FB coh).KR (xSQ w3) (.lit 0) (.lit 0)) (.lit (.ofNat 25)) (.lit 0)).ev ρ)).tmod 9):=rfl;have e41:(ρ.rep (σR coh)).i 41=(IntKind.u32.wrap ((IE.fn 0 (.fn (FB coh).KR (xSQ w3) (.lit 0) (.lit 0)) (.lit (.ofNat 27)) (.lit 0)).ev ρ)).tmod 1002001:=rfl;have e25:(ρ.rep (σR coh)).i 25=ρ.i 25:=rfl;have e3:(ρ.rep (σR coh)).i 3=ρ.i 4:=rfl;generalize (IE.fn 0 (.fn (FB coh).KR (xSQ w3) (.lit 0) (.lit 0)) (.lit (.ofNat 25)) (.lit 0)).ev ρ=p at e28;generalize (IE.fn 0 (.fn (FB coh).KR (xSQ w3) (.lit 0) (.lit 0)) (.lit (.ofNat 27)) (.lit 0)).ev ρ=q at e41;have p0:0<=IntKind.u8.wrap p:=(wrap_mem .u8 p).1;have q0:0<=IntKind.u32.wrap q:=(wrap_mem .u32 q).1;have s:0<=(IntKind.u8.wrap p).tmod 9/\(IntKind.u8.wrap p).tmod 9<9:=⟨Int.tmod_nonneg _ p0,Int.tmod_lt_of_pos _ (by decide)⟩
 have t:0<=(IntKind.u32.wrap q).tmod 1002001/\(IntKind.u32.wrap q).tmod 1002001<1002001:=⟨Int.tmod_nonneg _ q0,Int.tmod_lt_of_pos _ (by decide)⟩
 generalize (IntKind.u8.wrap p).tmod 9=a at e28 s;generalize (IntKind.u32.wrap q).tmod 1002001=b at e41 t
 have h28:0<=(ρ.rep (σR coh)).i 28/\(ρ.rep (σR coh)).i 28<=ρ.i 25:=by
  rw [e28];unfold aA;simp only [if_true];split<;>omega
 refine ⟨Dg fun i lo hi h=> ?_,by rw [e25]; exact h28.2⟩
 simp only [cuB,List.mem_cons,Prod.mk.injEq,List.not_mem_nil,or_false] at h
 rcases h with ⟨rfl,rfl,rfl⟩ | ⟨rfl,rfl,rfl⟩ | ⟨rfl,rfl,rfl⟩ | ⟨rfl,rfl,rfl⟩
 ·rw [e3]; omega
 ·omega
 ·rw [e25]; omega
 ·rw [e41]; omega
theorem alf{ρ:Env}(h1:ρ.std G gh)(h2:ρ.ok (bdL spB))(coh:Bool):fC ρ (ami coh):=by
 obtain ⟨k1,k2⟩:=okR hG h2 coh;have h1a:(ρ.rep (σR coh)).std G gh:=h1;have base:=ame hG h1a k1 k2 coh;intro o ho hd;obtain ⟨o',ho',rfl⟩:=List.mem_map.1 ho
 have hnil: ∀o∈ak5 coh,o.1=[]:=fun o ho=>by
  simp only [ak5,List.mem_cons] at ho
  rcases ho with rfl |rfl |rfl |rfl |rfl |rfl |rfl |rfl |rfl |ho
  all_goals first
   |rfl
   | (obtain ⟨j,_,rfl⟩:=List.mem_map.1 ho; rfl)
 have:=base o' ho' (by rw [hnil o' ho']; exact aw)
 show ((o'.2.1.rep (σR coh)).nrm (bdL spB) []).ev ρ=((o'.2.2.rep (σR coh)).nrm (bdL spB) []).ev ρ;rw [IE.bX h2 aw,IE.bX h2 aw,IE.a9,IE.a9];exact this
omit hG in
theorem ans(coh:Bool):ang coh=true:=by
 have h:=aa anb;cases coh
 ·exact h.2
 ·exact h.1
theorem aka(coh:Bool):(ais coh).wf=true/\(ais coh).Ok PR G gh:=by
 obtain ⟨h,w⟩:=aa (ans coh)
 have hc:bO PR G gh (lCu coh):=by
  cases coh
  ·exact bO.cons (W5 hG).1 (W5 hG).2 bO.nil
  ·exact bO.cons (XH hG).1 (XH hG).2 bO.nil
 have hf: ∀ρ:Env,ρ.std G gh->ρ.ok (bdL (ais coh).bds)->(ais coh).pre.holds ρ->(cuF coh).holds ρ:=fun ρ _ h2 _=>by
  have k:=(okR hG h2 coh).2;refine ak ?_ aw;show decide ((bL.rep (σR coh)).ev ρ<0)=false;rw [IE.a9];exact decide_eq_false (show ¬(ρ.rep (σR coh)).i 25-(ρ.rep (σR coh)).i 28<0 by omega)
 exact ⟨w,air hc (facts:=cuF coh) hf (Con.vG (c:=ais coh) (cuF coh) hf _ (fun ρ h1 h2 h3 dec a b hd hab=>uv h2 hd (alf hG h1 h2 coh) hab) h)⟩
end
def akj:IE:= .sub (.var 25) (.var 29)
def ak7:IE:= .sub (.var 28) (.var 29)
def ajt:IE:= .sub akj ak7
def ank:ah:= .arr [.u32] (.fn 2 (.var 24) (.var 29) akj) akj true
def inC(j:Nat):ab:= .sliceS j ak7 bL 1 false
def an0:IE:= .fn 2 (.fn 2 (.var 24) (.var 29) akj) ak7 ajt
def akg:ah:= .arr [.u32] an0 ajt true
def wcB:List (Nat×Int×Int):=[(25,0,8),(28,0,8),(26,0,8),(29,0,8)]
def aja:BE×Bool:=(.lt (.var 28) (.var 29),false)
def akh:Dec:=[(.eq ajt bL,true),(.eq bL ajt,true)]
def ajk:Con:={g:=68,args:=[.sliceA 0 ajt 1,.sliceS 1 (.var 28) bL 1 false,.int .i64 (.var 26)],os:=[akg,inN],bds:=wcB,pre:=[inP,aja,(.lt bL (.var 26),false)],res:= .tuple [],os':=[akg,inN]}
def lWc:ba:={con:=ajk,key:=5,n:=26,sl:=[0,1,5],e:= .exit 0,sl':=[]}
def aj0(b:Bool):Dec:=akh++match b with
 |true=>[(.lt (.var 26) ajt,true),(.lt (.var 26) bL,true),(.lt (.add (.var 28) (.var 26)) (.var 25),true),(.eq (.wrap .u32 (.fn 0 an0 (.var 26) (.lit 0))) (.wrap .u32 (.fn 0 (.var 24) (.add (.var 28) (.var 26)) (.lit 0))),true)]
 |false=>[(.lt (.var 26) ajt,false),(.lt (.var 26) bL,false)]
def tWc(b:Bool):Out:=lWc.tree PR ⟨[],[]⟩ 40 aG no' 12 (aj0 b) (.sub bL (.var 26))
def agb:Con:={g:=68,args:=[.sliceA 0 ajt 1,.sliceS 1 (.var 28) bL 1 false],os:=[akg,inN],bds:=[(25,0,8),(28,0,8),(29,0,8)],pre:=akh++[inP,aja,(.lt bL (.lit 0),false)],res:= .bool (.lit true),os':=[akg,inN]}
def al0(b:Bool):Bool:=(tWc b).all (ajk.leaf (qP (bdL ajk.bds) 12)) (aj0 b++ajk.pre)
def amo:Bool:=al0 true&&(al0 false&&(ajk.wf&&(fq agb ⟨[],[lWc]⟩ 40 12 12&&agb.wf)))
theorem amz:amo=true:=by kernel_rfl
def scK:List ah:=[kH (.iface kPT (.ptr (some (2,0)))) (inC 3) (im 4) dF,fx [.ptr (some (5,0)),.ptr none] (inS 6) (im 7) dF,nH (b9 (.var 90)) 8,ank,gL,nd (b9 (.var 90)) 9,inN,gL,.ghost 0 [.var 0] .nil,.ghost 2 [.var 0] .nil]
def scQ:List ah:=[kH (.iface qPT (.ptr (some (2,0)))) (inC 3) (im 4) dF,fx [.ptr none,.ptr (some (5,0))] (inS 6) (im 7) dF,dZ 1 (.var 0),ank,gL,pj (b9 (.var 90)) 8,inN,gL,.ghost 2 [.var 0] .nil]
def scO(coh:Bool):List ah:=match coh with
 |true=>scK
 |false=>scQ
def ahh(coh:Bool):Con:={g:=38,args:=[pm,.ptr (some (1,0))],os:=scO coh,bds:=(29,0,8)::snB,pre:=snP coh++[aja],res:= .bool (.lit true),os':=scO coh}
def scF:Dec:=[(.lt ak7 (.lit 0),false),(.lt akj (.lit 0),false),(.lt akj ak7,false),(.lt bL (.lit 0),false)]++akh
def akd(coh:Bool):Con:={ahh coh with pre:=scF++(ahh coh).pre}
def aj2(coh:Bool):Know:=match coh with
 |true=>⟨[zN,wq,tJ,agb],[]⟩
 |false=>⟨[F8,xw,tJ,agb],[]⟩
def am5(coh:Bool):Bool:=fq (akd coh) (aj2 coh) 100 12 12&&((ahh coh).wf&&(aj2 coh).cons.all Con.wf)
theorem amy:(am5 true&&am5 false)=true:=by kernel_rfl
def r9Z(coh l:Bool):IE:= .rem (akl coh l w40 .u8 25) (.lit 9)
def af9(coh l:Bool):IE:=match l with
 |true=>r9Z coh l
 |false=> .sel true (.var 27) (r9Z coh l) (.var 27) (r9Z coh l)
def inZ(coh l:Bool):IE:= .sub (PG l) (af9 coh l)
def mXZ(coh l:Bool):IE:= .fn 1 (.fn 1 (am2 coh l w40 24) (.lit 3) (.fn 0 (mL coh) (.lit 3) (.lit 0))) (.lit 7) (.fn 0 (mL coh) (.lit 7) (.lit 0))
def s2Z(coh l:Bool):IE:=(((ai6 coh).rep (σR coh)).rep (σSp coh l)).nrm (bdL D8) []
def rsF(coh l:Bool):Dec:=anr coh l w40++[amb (ajl coh),(al9 (ajl coh),coh),(akc (mXZ coh l),true),(mkLt (bdL D8) (inZ coh l) (.lit 0),false),(mkLt (bdL D8) (.lit 8) (inZ coh l),false),(mkLt (bdL D8) (s2Z coh l) (af9 coh l),false)]
def kRs(coh l:Bool):Know:=match coh with
 |true=>⟨[xG true,JN,mi true l,ahu true,BT,ajn true,ais true,cBK,MM,zN,tJ,oK,n9,ahh true],[]⟩
 |false=>⟨[xG false,JN,mi false l,ahu false,Bi,ajn false,ais false,cBQ,LF,F8,tJ,oK,n9,ahh false],[]⟩
def rRs(coh l:Bool):Bool:=fq (XB 11 coh l (rsF coh l)) (kRs coh l) 100 12 12
theorem aif{ρ:Env}:Dec.holds ρ akh:=
 ak (decide_eq_true (show ρ.i 25-ρ.i 29-(ρ.i 28-ρ.i 29)=ρ.i 25-ρ.i 28 by omega)) (ak (decide_eq_true (show ρ.i 25-ρ.i 28=ρ.i 25-ρ.i 29-(ρ.i 28-ρ.i 29) by omega)) aw)
theorem alo:(al0 true=true/\al0 false=true)/\ajk.wf=true/\fq agb ⟨[],[lWc]⟩ 40 12 12=true/\agb.wf=true:=by
 have h:=amz;unfold amo at h;simp only [Bool.and_eq_true] at h;exact ⟨⟨h.1,h.2.1⟩,h.2.2.1,h.2.2.2.1,h.2.2.2.2⟩
section
variable{G:Nat->Int->Int->Int->Int}
theorem ak9:lWc.con.wf=true/\lWc.Ok PR G gh:=by
 obtain ⟨⟨t1,t2⟩,wf,_⟩:=alo;refine ⟨wf,ba.OX (L:=40) (pol:=aG) (pure:=no') (d:=12) (μ:= .sub bL (.var 26)) mixed wf rfl fun ρ h1 h2 h3=> ?_⟩
 have b25:0<=ρ.i 25/\ρ.i 25<=8:=h2 25 0 8 rfl;have b28:0<=ρ.i 28/\ρ.i 28<=8:=h2 28 0 8 rfl;have b26:0<=ρ.i 26/\ρ.i 26<=8:=h2 26 0 8 rfl;have b29:0<=ρ.i 29/\ρ.i 29<=8:=h2 29 0 8 rfl;have p0: ¬ρ.i 25<ρ.i 28:=of_decide_eq_false (h3 inP (List.mem_cons_self ..));have p1: ¬ρ.i 28<ρ.i 29:=of_decide_eq_false (h3 aja (List.mem_cons_of_mem _ (List.mem_cons_self ..)))
 have fin: ∀b,(aj0 b).holds ρ->(tWc b).all (ajk.leaf (qP (bdL ajk.bds) 12)) (aj0 b++ajk.pre)=true-> ∃(K:Know) (facts:Dec),K.Ok PR G gh/\facts.holds ρ/\ ∃e s at' q,(lWc.tree PR K 40 aG no' 12 facts (.sub bL (.var 26))).pick ρ=some (e,s)/\lWc.con.ends at' s=some q/\q.hold ρ:=fun b hf ht=>by
  obtain ⟨e,s,dec',hd',p1,p2⟩:=Out.bP (bJ hf h3) ht;unfold Con.leaf at p2;split at p2
  ·rename_i q hq;exact ⟨⟨[],[]⟩,aj0 b,bc,hf,e,s,_,q,p1,hq,f7 (fun a b hab=>uR h2 hd' hab) p2⟩
  ·cases p2
 by_cases hi:ρ.i 26<ρ.i 25-ρ.i 28
 ·refine fin true (bJ aif (ak (decide_eq_true (show ρ.i 26<ρ.i 25-ρ.i 29-(ρ.i 28-ρ.i 29) by omega)) (ak (decide_eq_true hi) (ak (decide_eq_true (show ρ.i 28+ρ.i 26<ρ.i 25 by omega)) (ak (decide_eq_true ?_) aw))))) t1
  show IntKind.u32.wrap (ag (aY (aY (ρ.i 24) (ρ.i 29) (ρ.i 25-ρ.i 29)) (ρ.i 28-ρ.i 29) (ρ.i 25-ρ.i 29-(ρ.i 28-ρ.i 29))) (ρ.i 26))=IntKind.u32.wrap (ag (ρ.i 24) (ρ.i 28+ρ.i 26));rw [Ft (by omega) (by omega) b26.1 (by omega),Ft b29.1 (by omega) (by omega) (by omega),show ρ.i 29+(ρ.i 28-ρ.i 29+ρ.i 26)=ρ.i 28+ρ.i 26 by omega]
 ·exact fin false (bJ aif (ak (decide_eq_false (show ¬ρ.i 26<ρ.i 25-ρ.i 29-(ρ.i 28-ρ.i 29) by omega)) (ak (decide_eq_false hi) aw))) t2
theorem aic:agb.wf=true/\agb.Ok PR G gh:=by
 obtain ⟨_,_,r,w⟩:=alo;exact ⟨w,bA (ia rfl dj (lpC (ak9 (G:=G)).1 ak9.2 lpN)) r⟩
theorem amp{ρ:Env}(p0: ¬ρ.i 25<ρ.i 28)(p1: ¬ρ.i 28<ρ.i 29):Dec.holds ρ scF:=
 bJ (ak (decide_eq_false (show ¬ρ.i 28-ρ.i 29<0 by omega)) (ak (decide_eq_false (show ¬ρ.i 25-ρ.i 29<0 by omega)) (ak (decide_eq_false (show ¬ρ.i 25-ρ.i 29<ρ.i 28-ρ.i 29 by omega)) (ak (decide_eq_false (show ¬ρ.i 25-ρ.i 28<0 by omega)) aw)))) aif
theorem anm(coh:Bool):am5 coh=true:=by
 have h:=aa amy;cases coh
 ·exact h.2
 ·exact h.1
variable(hB:cX G)
include hB
theorem ajd(coh:Bool):(ahh coh).wf=true/\(ahh coh).Ok PR G gh:=by
 obtain ⟨h1,h2⟩:=aa (anm coh);obtain ⟨h2,h3⟩:=aa h2
 have kn:(aj2 coh).Ok PR G gh:=by
  cases coh
  ·exact bB h3 (aJ (Sg hB).2 (aJ (Su hB).2 (aJ zC.2 (aJ aic.2 dj))))
  ·exact bB h3 (aJ (PC hB).2 (aJ (QV hB).2 (aJ zC.2 (aJ aic.2 dj))))
 refine ⟨h2,fun ρ a1 a2 a3=> ?_⟩
 have a3': ∀p∈snP coh++[aja],p.1.ev ρ=p.2:=a3;have p0: ¬ρ.i 25<ρ.i 28:=of_decide_eq_false (a3' inP (by simp [snP]))
 have p1: ¬ρ.i 28<ρ.i 29:=of_decide_eq_false (a3' aja (by simp))
 exact bA (c:=akd coh) kn h1 ρ a1 a2 (bJ (amp p0 p1) a3)
omit hB in
theorem ajb(hM:Made G)(coh:Bool):(ahu coh).wf=true/\(ahu coh).Ok PR G gh:=by
 have h:=List.all_eq_true.1 ak6 coh (by cases coh<;>simp)
 obtain ⟨h1,h2⟩:=aa h;have w:=aa J0;refine ⟨(aa h2).1,?_⟩;cases coh
 ·exact bA (bB w.2 (aJ (Et hM.base false) (aJ (Mh hM) (aJ (Fb hM.base).2 (aJ (yf hM.base) (aJ (EJ hM.base).2 dj)))))) h1
 ·exact bA (bB w.1 (aJ (Et hM.base true) (aJ (Nv hM) (aJ (Fb hM.base).2 (aJ (yf hM.base) (aJ (EJ hM.base).2 dj)))))) h1
omit hB in
theorem ajr(h8: ∀M,G 148 M 0 0=1->bn M){ρ:Env}(h1:ρ.std G gh){coh:Bool}(h:Dec.holds ρ (reP coh)):bn (ρ.i 0)/\mN (ρ.i 0)=6/\aP (ρ.i 0)=coh/\mN (ρ.i 1)=6/\aP (ρ.i 1)=aP (ρ.i 0):=by
 have a1:aP (ρ.i 0)=coh:=h (iQ,coh) (by simp [reP])
 have a2:decide (ag (ρ.i 1) 3=6)=true:=h (amb (.var 1)) (by simp [reP])
 have a3:aP (ρ.i 1)=coh:=h (al9 (.var 1),coh) (by simp [reP])
 have a4:decide (fnI ρ 148 (ρ.i 0) 0 0=1)=true:=h (akc (.var 0),true) (by simp [reP])
 have a4:=of_decide_eq_true a4;rw [bY (by decide),h1.1] at a4
 exact ⟨h8 _ a4,iP h,a1,of_decide_eq_true a2,a3.trans a1.symm⟩
theorem ake(h8: ∀M,G 148 M 0 0=1->bn M)(coh:Bool):(ajn coh).wf=true/\(ajn coh).Ok PR G gh:=by
 have h:=aa alx;cases coh
 ·obtain ⟨r,w⟩:=aa h.2;obtain ⟨w,kw⟩:=aa w;have kn:(aly false).Ok PR G gh:=bB kw (aJ (lM (by decide)) (aJ (ll hB (by decide)).2 (aJ (j9 hB (by decide)) (aJ (EW hB (by decide)) (aJ oJ dj)))))
  refine ⟨w,Con.jX mixed kn (k:=1) (i:=1) (el:=gK 1) (sl:=slT) (M:= .var 1) (cv:=aX ZZ 2) (show 8<1000000 by decide) (iW (by decide)) rfl (fun ρ B W f w args' hr ha=> ?_) 20 aG no' 12 _ (fun ρ h1 h2 h3 hm dec a b hd hab=> ?_) r⟩
  ·obtain ⟨L,hL⟩:=fM ha (x:=0) (i:=0) (o:=0) rfl;exact g9 hr (show 8<1000000 by decide) hL (show amm.os[0]? =some (kH (.iface qPT (.ptr (some (1,0)))) (.slice (some (2,0)) 3 3 1) (.slice none 0 0 0) (.bool (.lit false))) from rfl) (x:=0) (o:=0) (fc (l:=[ab.iface qPT (.ptr (some (1,0))),.slice (some (2,0)) 3 3 1,.slice none 0 0 0,(.bool (.lit false))]) rfl (by decide))
  ·obtain ⟨mem0,n0,c0,n1,c1⟩:=ajr h8 h1 h3;exact uv h2 hd (cM (d:=[]) (a:= .var 0) (b:=reQ (reK (.var 1) 6) 6) (fun _=>(alh hB h1 (B:= .var 1) mem0 n0 c0 hm n1 c1).symm) ct) hab
 ·obtain ⟨r,w⟩:=aa h.1;obtain ⟨w,kw⟩:=aa w;have kn:(aly true).Ok PR G gh:=bB kw (aJ (lM (by decide)) (aJ (ll hB (by decide)).2 (aJ (j9 hB (by decide)) (aJ oJ dj))))
  refine ⟨w,Con.jX mixed kn (k:=0) (i:=2) (el:=gK 0) (sl:=slT) (M:= .var 1) (cv:= .nil) (show 8<1000000 by decide) (iW (by decide)) rfl (fun ρ B W f w args' hr ha=> ?_) 20 aG no' 12 _ (fun ρ h1 h2 h3 hm dec a b hd hab=> ?_) r⟩
  ·obtain ⟨L,hL⟩:=fM ha (x:=0) (i:=0) (o:=0) rfl;obtain ⟨L1,hL1⟩:=g9 hr (show 8<1000000 by decide) hL (show ald.os[0]? =some (kH (.iface kPT (.ptr (some (1,0)))) (.slice (some (3,0)) 3 3 1) (.slice none 0 0 0) (.bool (.lit false))) from rfl) (x:=0) (o:=0) (fc (l:=[ab.iface kPT (.ptr (some (1,0))),.slice (some (3,0)) 3 3 1,.slice none 0 0 0,(.bool (.lit false))]) rfl (by decide))
   exact eG hr (show 8<1000000 by decide) hL1 (show ald.os[1]? =some (sW ZZ 2) from rfl) (x:=0) (o:=0) (fc (l:= .ptr (some (2,0))::ZZ) rfl (by decide))
  ·obtain ⟨mem0,n0,c0,n1,c1⟩:=ajr h8 h1 h3;exact uv h2 hd (cM (d:=[]) (a:= .var 0) (b:=reK (.var 1) 6) (fun _=>(alv hB h1 (B:= .var 1) mem0 n0 c0 hm n1 c1).symm) ct) hab
end
end
end Go.Proofs.YtbhlmedfhilkbaaGreat

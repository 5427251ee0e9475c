/- Part Bd1. No condition. -/
import Derived.Test.YtpdhneemedlgaaaGreatBa
set_option linter.all false
namespace Go.Proofs.YtpdhneemedlgaaaGreat
open Go Go.Sx
set_option maxRecDepth 1000000
noncomputable section
abbrev slT:TypeId:=142
def gh(k:Nat):bz:=
 match k with
 |0=>cW 134 142
 |1=>cW 136 142
 |2=>dk 241
 |_=>bz.no
def mu(k:Nat):T ab:=match k with
 |0=> .nil
 |2=> .nil
 |_=>aX (b9 (.var 90)) 2
def dZ(k:Nat)(M:IE):ah:= .ghost k [M] (mu k)
def gK(k:Nat):TypeId:=match k with
 |0=>134
 |_=>136
theorem iW{k:Nat}(hk:k<2):gh k=cW (gK k) slT:=by
 match k,hk with
 |0,_=>rfl
 |1,_=>rfl
abbrev pgE:IE:= .quo (.var 1) (.lit 256)
def adE(i:Nat):IE:=match i with
 |0=> .var 1
 |i+1=> .wrap .u32 (.add (.var 1) (.lit (i+1:Nat)))
def rp(k:Nat)(g:FuncId)(args:List ab)(bds:List (Nat×Int×Int))(res:ab)(M':IE:= .var 0)(pre:Dec:=[]):Con:={g:=g,args:=pm::args,os:=[dZ k (.var 0)],bds:=bds,pre:=pre,res:=res,os':=[dZ k M']}
def runIn(c:Con)(k:Nat)(pe:IE)(l:List Con)(obs:List (Dec×IE×IE))(coh od oc:Bool)(os':List ah):Bool:=
 ((KH c (gK k) slT pe coh od oc os').tree PR ⟨l,[]⟩ 20 aG no' 12 []).all ((KH c (gK k) slT pe coh od oc os').leaf (qN (bdL c.bds) obs)) (uP pe true coh++c.pre)
def OO(c:Con)(k:Nat)(pe:IE)(l:List Con)(obs:List (Dec×IE×IE))(coh:Bool):Bool:=
 ((Ls c (gK k) slT pe false coh).tree PR ⟨l,[]⟩ 20 aG no' 12 []).all ((Ls c (gK k) slT pe false coh).leaf (qN (bdL c.bds) obs)) (uP pe false coh++c.pre)
theorem ku{G:Nat->Int->Int->Int->Int}{l:List Con}(hw:l.all Con.wf=true)(h: ∀c∈l,c.Ok PR G gh):bO PR G gh l:=fun c hc=>⟨List.all_eq_true.1 hw c hc,h c hc⟩
theorem z8{c:Con}{G:Nat->Int->Int->Int->Int}{GH:Nat->bz}: ∀ρ:Env,ρ.std G GH->ρ.ok (bdL c.bds)->c.pre.holds ρ->Dec.holds ρ []:=fun _ _ _ _ p hp=>by cases hp
def eight(f:Bool->Bool->Bool->Bool):Bool:=f true true true&&(f true true false&&(f true false true&&(f true false false&&(f false true true&&(f false true false&&(f false false true&&f false false false))))))
theorem Nc{f:Bool->Bool->Bool->Bool}(h:eight f=true): ∀x y z,f x y z=true:=by
 simp only [eight,Bool.and_eq_true] at h;obtain ⟨h1,h2,h3,h4,h5,h6,h7,h8⟩:=h;intro x y z;cases x<;>cases y<;>cases z<;>assumption
structure Wr where
 os':Bool->Bool->Bool->List ah
 b:Bool->Bool->Bool->Behind
def Wr.read(k:Nat)(pe:IE):Wr:=⟨fun coh od oc=>lT (gK k) slT coh od oc pe,fun coh od oc=>{od:=od,oc:=oc,d:= .fn 10 (.var 0) pe (.lit 0),c:= .fn 11 (.var 0) pe (.lit 0),r:=rE pe}⟩
def dz(c:Con)(k:Nat)(pe:IE)(l:List Con)(obs obs':List (Dec×IE×IE))(wr:Wr):Bool:=
 eight (fun coh od oc=>runIn c k pe l obs coh od oc (wr.os' coh od oc))&&(OO c k pe l obs' true&&OO c k pe l obs' false)
def te(k:Nat)(pe:IE)(wr:Wr):Prop:= ∀coh od oc:Bool,(wr.os' coh od oc)[1]? =some (.win pe 7 (bu (wr.b coh od oc).i (wr.b coh od oc).j coh (wr.b coh od oc).od (wr.b coh od oc).oc (wr.b coh od oc).r) slT true)/\(wr.os' coh od oc)[(wr.b coh od oc).i]? =some (.arr [.u8] (wr.b coh od oc).d (.lit 256) (wr.b coh od oc).od)/\
 (coh=false->(wr.os' coh od oc)[(wr.b coh od oc).j]? =some (.arr [.u8] (wr.b coh od oc).c (.lit 256) (wr.b coh od oc).oc))/\(wr.os' coh od oc).length<=1000/\((wr.b coh od oc).od=true\/((wr.b coh od oc).i=2/\od=false))/\(coh=false->(wr.b coh od oc).oc=true\/((wr.b coh od oc).j=3/\oc=false))/\(coh=false->(wr.b coh od oc).i≠(wr.b coh od oc).j)
theorem ui(k:Nat)(pe:IE):te k pe (Wr.read k pe):=by
 intro coh od oc;refine ⟨rfl,rfl,fun hc=> ?_,?_,?_,fun _=> ?_,fun _=>(show (2:Nat)≠3 by decide)⟩
 ·subst hc; rfl
 ·show (lT _ _ _ _ _ _).length<=1000;rw [pq]; cases coh<;>decide
 ·cases od
  ·exact .inr ⟨rfl,rfl⟩
  ·exact .inl rfl
 ·cases oc
  ·exact .inr ⟨rfl,rfl⟩
  ·exact .inl rfl
section
variable{G:Nat->Int->Int->Int->Int}(hG:cX G)
include hG
theorem nQ{c:Con}{k:Nat}{cv:T ab}{M':IE}(hk:k<2)(c0:c.os=[.ghost k [.var 0] cv])(c1:c.os'=[.ghost k [M'] cv])(cr:c.res.free=true)(ca:c.args.head? =some pm)(pe:IE)(l:List Con)(hl:bO PR G gh l)(obs obs':List (Dec×IE×IE))(wr:Wr)(hback:te k pe wr)
 (hpos: ∀ρ:Env,ρ.ok (bdL c.bds)->c.pre.holds ρ->0<=pe.ev ρ)
 (hobs: ∀ρ:Env,ρ.std G gh->ρ.ok (bdL c.bds)->c.pre.holds ρ->pe.ev ρ<mN (ρ.i 0)->fC ρ obs)
 (hobs': ∀ρ:Env,ρ.std G gh->ρ.ok (bdL c.bds)->c.pre.holds ρ->mN (ρ.i 0)<=pe.ev ρ->fC ρ obs')
 (hsame: ∀ρ:Env,ρ.std G gh->ρ.ok (bdL c.bds)->c.pre.holds ρ->bn (ρ.i 0)->mN (ρ.i 0)<=pe.ev ρ->M'.ev ρ=ρ.i 0)
 (hnext: ∀coh od oc:Bool,∀ρ:Env,ρ.std G gh->ρ.ok (bdL c.bds)->c.pre.holds ρ->bn (ρ.i 0)->aP (ρ.i 0)=coh-> ∀p:Nat,pe.ev ρ=p->p<(mN (ρ.i 0)).toNat->b8 (ρ.i 0) (M'.ev ρ) p ((wr.b coh od oc).d.ev ρ) ((wr.b coh od oc).c.ev ρ) ((wr.b coh od oc).r.ev ρ))
 (h:dz c k pe l obs obs' wr=true):c.Ok PR G gh:=by
 simp only [dz,Bool.and_eq_true] at h;obtain ⟨hin,hro1,hro2⟩:=h;have hin:=Nc hin;have hro: ∀coh,OO c k pe l obs' coh=true:=fun coh=>by cases coh<;>assumption
 have sub: ∀ {ρ:Env} {v coh:Bool},Dec.holds ρ (uP pe v coh++c.pre)->c.pre.holds ρ/\(decide (pe.ev ρ<mN (ρ.i 0))=v):=fun h=>
  ⟨fun p hp=>h p (by simp [hp]),h (.lt pe nE,_) (by simp [uP])⟩
 refine X4 (k:=k) (cv:=cv) (Me':=M') (pe:=pe) (iW hk) hG.pg c0 c1 cr ca hpos (fun coh=> ?_) hsame (fun coh od oc=> ?_)
 ·exact Con.vh mixed ⟨hl,fun _ h=>by cases h⟩ 20 aG no' 12 [] z8 obs' (fun ρ h1 h2 h3=>hobs' ρ h1 h2 (sub h3).1 (by have:=(sub h3).2; simp at this; exact this)) (hro coh)
 ·obtain ⟨b1,b2,b3,b4,b5,b6,b7⟩:=hback coh od oc;exact ⟨wr.b coh od oc,wr.os' coh od oc,Con.vh mixed ⟨hl,fun _ h=>by cases h⟩ 20 aG no' 12 [] z8 obs (fun ρ h1 h2 h3=>hobs ρ h1 h2 (sub h3).1 (by have:=(sub h3).2; simp at this; exact this)) (hin coh od oc),b1,b2,b3,b4,b5,b6,b7,hnext coh od oc⟩
theorem vg{c:Con}{k:Nat}{cv:T ab}(hk:k<2)(c0:c.os=[.ghost k [.var 0] cv])(c1:c.os'=[.ghost k [.var 0] cv])(cr:c.res.free=true)(ca:c.args.head? =some pm)(pe:IE)(l:List Con)(hl:bO PR G gh l)(obs obs':List (Dec×IE×IE))
 (hpos: ∀ρ:Env,ρ.ok (bdL c.bds)->c.pre.holds ρ->0<=pe.ev ρ)
 (hobs: ∀ρ:Env,ρ.std G gh->ρ.ok (bdL c.bds)->c.pre.holds ρ->pe.ev ρ<mN (ρ.i 0)->fC ρ obs)
 (hobs': ∀ρ:Env,ρ.std G gh->ρ.ok (bdL c.bds)->c.pre.holds ρ->mN (ρ.i 0)<=pe.ev ρ->fC ρ obs')
 (h:dz c k pe l obs obs' (Wr.read k pe)=true):c.Ok PR G gh:=by
 refine nQ hG hk c0 c1 cr ca pe l hl obs obs' (Wr.read k pe) (ui k pe) hpos hobs hobs' (fun ρ _ _ _ _ _=>rfl) (fun coh od oc ρ h1 h2 h3 hm hc p hp hlt=> ?_) h
 have e1:(IE.fn 10 (.var 0) pe (.lit 0)).ev ρ=pgD (ρ.i 0) p:=by
  show fnI ρ 10 (ρ.i 0) (pe.ev ρ) 0=_;rw [cj hG h1 (by decide) (by decide),hp]
  rfl
 have e2:(IE.fn 11 (.var 0) pe (.lit 0)).ev ρ=pgC (ρ.i 0) p:=by
  show fnI ρ 11 (ρ.i 0) (pe.ev ρ) 0=_;rw [cj hG h1 (by decide) (by decide),hp]
  rfl
 show b8 (ρ.i 0) (ρ.i 0) p ((IE.fn 10 (.var 0) pe (.lit 0)).ev ρ) ((IE.fn 11 (.var 0) pe (.lit 0)).ev ρ) ((rE pe).ev ρ);rw [e1,e2,oY hp (hm.r p hlt)];exact b8.refl hm hlt
end
theorem c8{ρ:Env}{l:List (Nat×Int×Int)}(h:ρ.ok (bdL l))(hl:bdL l 1=some (0,4294967295)):0<=ρ.i 1/\ρ.i 1<=4294967295/\pgE.ev ρ=ρ.i 1 / 256:=by
 have:=h 1 0 4294967295 hl;refine ⟨this.1,this.2,?_⟩;show (ρ.i 1).tdiv 256=_;exact Int.tdiv_eq_ediv_of_nonneg this.1
theorem CR{ρ:Env}(h:0<=ρ.i 1):(IE.rem (.var 1) (.lit 256)).ev ρ=ρ.i 1 % 256:=Int.tmod_eq_emod_of_nonneg h
theorem AQ{M a:Int}(h:0<=a):ag (pgD M (a / 256).toNat) (a % 256)=ag M (a*4)/\ag (pgC M (a / 256).toNat) (a % 256)=ag M (a*4+1):=by
 obtain ⟨n,rfl⟩:=Int.eq_ofNat_of_zero_le h;have h1:((n:Int) / 256).toNat=n / 256:=by omega
 have h2:(n:Int) % 256=((n % 256:Nat):Int):=by omega
 rw [h1,h2,fe M _ _ (Nat.mod_lt _ (by decide)),sF M _ _ (Nat.mod_lt _ (by decide))]
 unfold mD mC;have e:256*(n / 256)+n % 256=n:=Nat.div_add_mod n 256;rw [e];refine ⟨?_,?_⟩
 ·rw [show ((n:Int)*4)=((4*n:Nat):Int) by omega]
 ·rw [show ((n:Int)*4+1)=((4*n+1:Nat):Int) by omega]
section
variable{G:Nat->Int->Int->Int->Int}
end
theorem two{p:Nat->Prop}(h0:p 0)(h1:p 1): ∀ {k:Nat},k<2->p k:=fun {k} hk=>match k,hk with
 |0,_=>h0
 |1,_=>h1
def gI(k:Nat):Con:=rp k 476 [uV .u32 1] [bC 1] (uF .u8 20 (.var 0) (.var 1))
def tc:List (Dec×IE×IE):=[([],.wrap .u8 (.fn 20 (.var 0) (.var 1) (.lit 0)),.wrap .u8 (.fn 0 (.fn 10 (.var 0) pgE (.lit 0)) (.rem (.var 1) (.lit 256)) (.lit 0)))]
def oG:List (Dec×IE×IE):=[([],.wrap .u8 (.fn 20 (.var 0) (.var 1) (.lit 0)),.lit 0)]
theorem ace:dz (gI 0) 0 pgE [] tc oG (Wr.read 0 pgE)=true:=by kernel_rfl
theorem ZP:dz (gI 1) 1 pgE [] tc oG (Wr.read 1 pgE)=true:=by kernel_rfl
section
variable{G:Nat->Int->Int->Int->Int}(hG:cX G)
include hG
theorem qL{k:Nat}(hk:k<2):(gI k).Ok PR G gh:=by
 have run: ∀ {k:Nat},k<2->dz (gI k) k pgE [] tc oG (Wr.read k pgE)=true:=two (p:=fun k=>dz (gI k) k pgE [] tc oG (Wr.read k pgE)=true) ace ZP
 refine vg hG hk rfl rfl rfl rfl pgE [] bO.nil tc oG (fun ρ h2 h3=> ?_) (fun ρ h1 h2 h3 hin=> ?_) (fun ρ h1 h2 h3 hin=> ?_) (run hk)
 ·obtain ⟨q1,_,q3⟩:=c8 h2 rfl;rw [q3];omega
 ·obtain ⟨q1,q2,q3⟩:=c8 h2 rfl;intro o ho _;simp only [tc,List.mem_cons,List.not_mem_nil,or_false] at ho;subst ho;show IntKind.u8.wrap (fnI ρ 20 (ρ.i 0) (ρ.i 1) 0)=IntKind.u8.wrap (ag (fnI ρ 10 (ρ.i 0) (pgE.ev ρ) 0) ((IE.rem (.var 1) (.lit 256)).ev ρ));rw [q3] at hin;rw [cj hG h1 (by decide) (by decide),cj hG h1 (by decide) (by decide),q3,CR q1]
  show IntKind.u8.wrap (pkS (ρ.i 0) (ρ.i 1))=IntKind.u8.wrap (ag (pgD (ρ.i 0) (ρ.i 1 / 256).toNat) (ρ.i 1 % 256));rw [(AQ q1).1];unfold pkS inM;rw [if_pos (by simp [hin])]
  exact cZ (eJ _)
 ·obtain ⟨q1,q2,q3⟩:=c8 h2 rfl;intro o ho _;simp only [oG,List.mem_cons,List.not_mem_nil,or_false] at ho;subst ho;show IntKind.u8.wrap (fnI ρ 20 (ρ.i 0) (ρ.i 1) 0)=0;rw [q3] at hin;rw [cj hG h1 (by decide) (by decide)]
  show IntKind.u8.wrap (pkS (ρ.i 0) (ρ.i 1))=0;unfold pkS inM;rw [if_neg (by simp; exact hin)]
  rfl
end
theorem ct{ρ:Env}:fC ρ []:=fun o ho=>by cases ho
theorem cM{ρ:Env}{d:Dec}{a b:IE}{l:List (Dec×IE×IE)}(h:Dec.holds ρ d->a.ev ρ=b.ev ρ)(hl:fC ρ l):fC ρ ((d,a,b)::l):=fun o ho=>by
 rcases List.mem_cons.1 ho with rfl |ho
 ·exact h
 ·exact hl o ho
theorem Cb{ρ:Env}{v:Bool}(h:Dec.holds ρ [(iQ,v)]):aP (ρ.i 0)=v:=h (iQ,v) (by simp)
def MQ:IE:= .rem (.var 1) (.lit 256)
def dE:IE:= .wrap .u8 (.fn 0 (.fn 10 (.var 0) pgE (.lit 0)) MQ (.lit 0))
def cE:IE:= .wrap .u8 (.fn 0 (.fn 11 (.var 0) pgE (.lit 0)) MQ (.lit 0))
section
variable{G:Nat->Int->Int->Int->Int}(hG:cX G)
include hG
theorem Qy{ρ:Env}(h1:ρ.std G gh)(h2:ρ.ok (bdL [bC 1])):dE.ev ρ=IntKind.u8.wrap (ag (ρ.i 0) (ρ.i 1*4)):=by
 obtain ⟨q1,_,q3⟩:=c8 h2 rfl;show IntKind.u8.wrap (ag (fnI ρ 10 (ρ.i 0) (pgE.ev ρ) 0) ((IE.rem (.var 1) (.lit 256)).ev ρ))=_;rw [cj hG h1 (by decide) (by decide),q3,CR q1]
 show IntKind.u8.wrap (ag (pgD (ρ.i 0) (ρ.i 1 / 256).toNat) (ρ.i 1 % 256))=_;rw [(AQ q1).1]
theorem Wj{ρ:Env}(h1:ρ.std G gh)(h2:ρ.ok (bdL [bC 1])):cE.ev ρ=IntKind.u8.wrap (ag (ρ.i 0) (ρ.i 1*4+1)):=by
 obtain ⟨q1,_,q3⟩:=c8 h2 rfl;show IntKind.u8.wrap (ag (fnI ρ 11 (ρ.i 0) (pgE.ev ρ) 0) ((IE.rem (.var 1) (.lit 256)).ev ρ))=_;rw [cj hG h1 (by decide) (by decide),q3,CR q1]
 show IntKind.u8.wrap (ag (pgC (ρ.i 0) (ρ.i 1 / 256).toNat) (ρ.i 1 % 256))=_;rw [(AQ q1).2]
omit hG in
theorem CI{ρ:Env}(h2:ρ.ok (bdL [bC 1]))(hin:mN (ρ.i 0)<=pgE.ev ρ):inM (ρ.i 0) (ρ.i 1)=false:=by
 obtain ⟨_,_,q3⟩:=c8 h2 rfl;rw [q3] at hin;simp [inM];omega
omit hG in
theorem AD{ρ:Env}(h2:ρ.ok (bdL [bC 1]))(hin:pgE.ev ρ<mN (ρ.i 0)):inM (ρ.i 0) (ρ.i 1)=true:=by
 obtain ⟨_,_,q3⟩:=c8 h2 rfl;rw [q3] at hin;simp [inM];omega
theorem Ew{ρ:Env}(h1:ρ.std G gh)(h2:ρ.ok (bdL [bC 1])):((IE.wrap .u8 (.fn 21 (.var 0) (.var 1) (.lit 0))).ev ρ=cdS (ρ.i 0) (ρ.i 1)):=by
 show IntKind.u8.wrap (fnI ρ 21 (ρ.i 0) (ρ.i 1) 0)=_;rw [cj hG h1 (by decide) (by decide)]
 show IntKind.u8.wrap (cdS (ρ.i 0) (ρ.i 1))=_;unfold cdS;split
 ·exact cZ (eJ _)
 ·rfl
theorem FX{ρ:Env}(h1:ρ.std G gh)(a:IE)(r:Int):(IE.fn 22 (.var 0) a (.lit r)).ev ρ=b2 (okS (ρ.i 0) (a.ev ρ) r):=by
 show fnI ρ 22 (ρ.i 0) (a.ev ρ) r=_;rw [cj hG h1 (by decide) (by decide)]
 rfl
end
def zI(k:Nat):Con:=rp k 487 [uV .u32 1] [bC 1] (uF .u8 21 (.var 0) (.var 1))
def cdE:IE:= .wrap .u8 (.fn 21 (.var 0) (.var 1) (.lit 0))
def A0:List (Dec×IE×IE):=[([(iQ,true)],cdE,dE),([(iQ,false)],cdE,cE)]
def vO:List (Dec×IE×IE):=[([],cdE,.lit 0)]
theorem YV:dz (zI 0) 0 pgE [] A0 vO (Wr.read 0 pgE)=true:=by kernel_rfl
theorem aay:dz (zI 1) 1 pgE [] A0 vO (Wr.read 1 pgE)=true:=by kernel_rfl
section
variable{G:Nat->Int->Int->Int->Int}(hG:cX G)
include hG
theorem Rs{k:Nat}(hk:k<2):(zI k).Ok PR G gh:=by
 refine vg hG hk rfl rfl rfl rfl pgE [] bO.nil A0 vO (fun ρ h2 h3=> ?_) (fun ρ h1 h2 h3 hin=> ?_) (fun ρ h1 h2 h3 hin=> ?_) (two (p:=fun k=>dz (zI k) k pgE [] A0 vO (Wr.read k pgE)=true) YV aay hk)
 ·obtain ⟨q1,_,q3⟩:=c8 h2 rfl;rw [q3];omega
 ·refine cM (fun hc=> ?_) (cM (fun hc=> ?_) ct)
  ·rw [Qy hG h1 h2];refine (Ew hG h1 h2).trans ?_;unfold cdS;rw [AD h2 hin,Cb hc];rfl
  ·rw [Wj hG h1 h2];refine (Ew hG h1 h2).trans ?_;unfold cdS;rw [AD h2 hin,Cb hc];rfl
 ·refine cM (fun _=> ?_) ct
  refine (Ew hG h1 h2).trans ?_;unfold cdS;rw [CI h2 hin];rfl
end
theorem Iz(b:Bool):b2 b=1 ↔ b=true:=by cases b<;>simp [b2]
section
variable{G:Nat->Int->Int->Int->Int}(hG:cX G)
include hG
end
def rgE:IE:= .wrap .i64 (.fn 23 (.var 0) (.var 1) (.lit 0))
def oH(k:Nat):Con:=rp k 479 [uV .i64 1] [(1,0,9223372036854775807)] (.int .i64 rgE)
def qQ:List (Dec×IE×IE):=[([],rgE,.wrap .i64 (.fn 0 (.var 0) (.add (.mul (.var 1) (.lit 4)) (.lit 2)) (.lit 0)))]
def nY:List (Dec×IE×IE):=[([],rgE,.lit 0)]
theorem To:dz (oH 0) 0 (.var 1) [] qQ nY (Wr.read 0 (.var 1))=true:=by kernel_rfl
theorem Uh:dz (oH 1) 1 (.var 1) [] qQ nY (Wr.read 1 (.var 1))=true:=by kernel_rfl
def prM:IE:= .fn 31 (.var 0) (.var 1) (.var 2)
def r7E:IE:= .bits .and .i64 (.var 2) (.lit 7)
def eE(k:Nat):Con:=rp k 478 [uV .i64 1,uV .i64 2] [(1,0,9223372036854775807),eY 2] (.tuple []) prM
def Wr.right(k:Nat)(pe r:IE):Wr:=⟨fun coh od oc=>match coh with
 |true=>[.cells (jy coh) (gK k) false 2,.win pe 7 (bu 2 3 coh od oc r) slT true,.arr [.u8] (.fn 10 (.var 0) pe (.lit 0)) (.lit 256) od]
 |false=>[.cells (jy coh) (gK k) false 2,.win pe 7 (bu 2 3 coh od oc r) slT true,.arr [.u8] (.fn 10 (.var 0) pe (.lit 0)) (.lit 256) od,.arr [.u8] (.fn 11 (.var 0) pe (.lit 0)) (.lit 256) oc],
 fun coh od oc=>{od:=od,oc:=oc,d:= .fn 10 (.var 0) pe (.lit 0),c:= .fn 11 (.var 0) pe (.lit 0),r:=r}⟩
theorem RN:dz (eE 0) 0 (.var 1) [] [] [] (Wr.right 0 (.var 1) r7E)=true:=by kernel_rfl
theorem Q3:dz (eE 1) 1 (.var 1) [] [] [] (Wr.right 1 (.var 1) r7E)=true:=by kernel_rfl
theorem CU(k:Nat)(pe r:IE):te k pe (Wr.right k pe r):=by
 intro coh od oc;cases coh<;>cases od<;>cases oc<;>exact ⟨rfl,rfl,fun h=>by first | (cases h; done) |rfl,by first |exact (show 3<=1000 by decide) |exact (show 4<=1000 by decide),by first |exact .inl rfl |exact .inr ⟨rfl,rfl⟩,fun _=>by first |exact .inl rfl |exact .inr ⟨rfl,rfl⟩,fun _=>(show (2:Nat)≠3 by decide)⟩
section
variable{G:Nat->Int->Int->Int->Int}(hG:cX G)
include hG
theorem yb{k:Nat}(hk:k<2):(oH k).Ok PR G gh:=by
 have e: ∀ {ρ:Env},ρ.std G gh->rgE.ev ρ=IntKind.i64.wrap (rtS (ρ.i 0) (ρ.i 1)):=fun {ρ} h1=>by
  show IntKind.i64.wrap (fnI ρ 23 (ρ.i 0) (ρ.i 1) 0)=_;rw [cj hG h1 (by decide) (by decide)]
  rfl
 have pos: ∀ {ρ:Env},ρ.ok (bdL [(1,0,9223372036854775807)])->0<=ρ.i 1:=fun {ρ} h=>(h 1 0 _ rfl).1
 refine vg hG hk rfl rfl rfl rfl (.var 1) [] bO.nil qQ nY (fun ρ h2 h3=>pos h2) (fun ρ h1 h2 h3 hin=> ?_) (fun ρ h1 h2 h3 hin=> ?_) (two (p:=fun k=>dz (oH k) k (.var 1) [] qQ nY (Wr.read k (.var 1))=true) To Uh hk)
 ·refine cM (fun _=> ?_) ct
  rw [e h1];show _=IntKind.i64.wrap (ag (ρ.i 0) (ρ.i 1*4+2));unfold rtS;rw [if_pos ⟨pos h2,hin⟩];exact bI _ _ (wrap_mem _ _).1 (wrap_mem _ _).2
 ·refine cM (fun _=> ?_) ct
  rw [e h1];unfold rtS;rw [if_neg (fun h=>by have:mN (ρ.i 0)<=ρ.i 1:=hin; omega)]
  rfl
theorem j9{k:Nat}(hk:k<2):(eE k).Ok PR G gh:=by
 have pos: ∀ {ρ:Env},ρ.ok (bdL [(1,0,9223372036854775807),eY 2])->0<=ρ.i 1:=fun {ρ} h=>(h 1 0 _ rfl).1
 have e: ∀ {ρ:Env},ρ.std G gh->prM.ev ρ=prS (ρ.i 0) (ρ.i 1) (ρ.i 2):=fun {ρ} h1=>by
  show fnI ρ 31 (ρ.i 0) (ρ.i 1) (ρ.i 2)=_;rw [cj hG h1 (by decide) (by decide)]
  rfl
 refine nQ hG hk rfl rfl rfl rfl (.var 1) [] bO.nil [] [] (Wr.right k (.var 1) r7E) (CU k _ _) (fun ρ h2 h3=>pos h2) (fun ρ h1 h2 h3 hin=>ct) (fun ρ h1 h2 h3 hin=>ct) (fun ρ h1 h2 h3 hm hin=> ?_) (fun coh od oc ρ h1 h2 h3 hm hc p hp hlt=> ?_) (two (p:=fun k=>dz (eE k) k (.var 1) [] [] [] (Wr.right k (.var 1) r7E)=true) RN Q3 hk)
 ·rw [e h1];unfold prS;rw [if_neg (fun h=>by have:mN (ρ.i 0)<=ρ.i 1:=hin; omega)]
 ·rw [e h1];have hp:ρ.i 1=p:=hp;unfold prS;rw [if_pos ⟨pos h2,by omega⟩,hp]
  have e1:(IE.fn 10 (.var 0) (.var 1) (.lit 0)).ev ρ=pgD (ρ.i 0) p:=by
   show fnI ρ 10 (ρ.i 0) (ρ.i 1) 0=_;rw [cj hG h1 (by decide) (by decide),hp]
   rfl
  have e2:(IE.fn 11 (.var 0) (.var 1) (.lit 0)).ev ρ=pgC (ρ.i 0) p:=by
   show fnI ρ 11 (ρ.i 0) (ρ.i 1) 0=_;rw [cj hG h1 (by decide) (by decide),hp]
   rfl
  show b8 (ρ.i 0) _ p ((IE.fn 10 (.var 0) (.var 1) (.lit 0)).ev ρ) ((IE.fn 11 (.var 0) (.var 1) (.lit 0)).ev ρ) (aN .and .i64 (ρ.i 2) 7);rw [e1,e2]
  have:=I2 (M:=ρ.i 0) (r:=aN .and .i64 (ρ.i 2) 7) (p:=p) hm hlt (by
   have:=tI .i64 (ρ.i 2) 7 (by decide)
   exact this)
  have ei:((p:Int)*4+2)=((4*p+2:Nat):Int):=by omega
  rw [ei];exact this
end
end
end Go.Proofs.YtpdhneemedlgaaaGreat

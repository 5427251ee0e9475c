/- Part Cp3. No condition. -/
import Derived.Test.YtpdhneemedlgaaaGreatLv1
set_option linter.all false
namespace Go.Proofs.YtpdhneemedlgaaaGreat
open Go Go.Sx
set_option maxRecDepth 1000000
noncomputable section
theorem ba.BV{P:Program}(mixed:P.follows .mixedOrders=true){G:Nat->Int->Int->Int->Int}{GH:Nat->bz}{K:Know}(hK:K.Ok P G GH){c:ba}(hwf:c.con.wf=true)(hsl:c.sl.length=c.con.args.length){ι:Type}(fac:ι->Dec)(L:Nat)(pol:FuncId->Nat->Bool)(pure:FuncId->Bool)(d k:Nat)(μ:IE)(obs:List (Dec×IE×IE))
 (ho: ∀ρ:Env,ρ.std G GH->ρ.ok (bdL c.con.bds)->c.con.pre.holds ρ->fC ρ obs)
 (hx: ∀ρ:Env,ρ.std G GH->ρ.ok (bdL c.con.bds)->c.con.pre.holds ρ-> ∃i,(fac i).holds ρ/\(c.tree P K L pol pure d (fac i) μ).all (c.con.leaf (qX (bdL c.con.bds) k obs)) (fac i++c.con.pre)=true):c.Ok P G GH:=by
 refine ba.OX (L:=L) (pol:=pol) (pure:=pure) (d:=d) (μ:=μ) mixed hwf hsl fun ρ h1 h2 h3=> ?_
 obtain ⟨i,hi,h⟩:=hx ρ h1 h2 h3;obtain ⟨e,s,dec',hd',p1,p2⟩:=Out.bP (bJ hi h3) h;unfold Con.leaf at p2;split at p2
 ·rename_i l hl;exact ⟨K,fac i,hK,hi,e,s,_,l,p1,hl,f7 (fun a b hab=>uv h2 hd' (ho ρ h1 h2 h3) hab) p2⟩
 ·cases p2
def rg7(M:Int)(p:Nat):Int:=aN .and .i64 (IntKind.i64.wrap (rtS M (p:Nat))) 7
def AN(M2 M1:Int)(p:Nat):Int:=prS (poF M2 (256*p:Nat) (cyF pkS 0 M1 (256*p:Nat) 0 256) 0 256) (p:Nat) (aN .and .i64 (rg7 M1 p) 3)
def g9(M2 M1:Int)(p:Nat):Nat->Int
 |0=>M2
 |k+1=>g9 (AN M2 M1 p) M1 (p+1) k
def nt(R M1:Int)(p:Nat):Nat->Int
 |0=>R
 |k+1=>nt (aD R (p:Nat) (rg7 M1 p)) M1 (p+1) k
def DC(I M1 n:Int)(p:Nat):Int:=lS (aY I 0 (256*p:Nat)) (256*p:Nat) (lS (aY (cyF cdS 0 M1 (256*p:Nat) 0 256) 0 256) 256 (aY I ((256*p:Nat)+256:Int) (n*256)))
def nR(I M1 n:Int)(p:Nat):Nat->Int
 |0=>I
 |k+1=>nR (DC I M1 n p) M1 n (p+1) k
structure CopG (G:Nat->Int->Int->Int->Int):Prop where
 c:CpyG G
 m: ∀x y z,G 115 x y z=g9 x y (unpI z).1.toNat ((unpI z).2-(unpI z).1).toNat
 r: ∀x y z,G 116 x y z=nt x y (unpI z).1.toNat ((unpI z).2-(unpI z).1).toNat
 i: ∀x y z,G 117 x y z=nR x y (unpI z).2 (unpI z).1.toNat ((unpI z).2-(unpI z).1).toNat
theorem Cp(M:Int)(p:Nat):0<=rg7 M p/\rg7 M p<=7:=tI .i64 _ 7 (by decide)
def rgX:IE:= .bits .and .i64 (.wrap .i64 (.fn 23 (.var 0) (.var 6) (.lit 0))) (.lit 7)
def rX:IE:= .fn 1 (.var 12) (.var 6) rgX
def mX:IE:= .fn 31 (.fn 38 (.var 1) (pr9 s66 (cyE 113 (.lit 0) (.var 0) s66 (.lit 0))) (pr9 (.lit 0) (.lit 256))) (.var 6) (.bits .and .i64 (.wrap .i64 (.fn 0 rX (.var 6) (.lit 0))) (.lit 3))
def iX:IE:= .fn 3 (.fn 2 (.var 13) (.lit 0) s66) s66 (.fn 3 (.fn 2 (cyE 114 (.lit 0) (.var 0) s66 (.lit 0)) (.lit 0) (.lit 256)) (.lit 256) (.fn 2 (.var 13) (.add s66 (.lit 256)) s56))
def nx6:IE:= .add (.var 6) (.lit 1)
def BK:List (Dec×IE×IE):=[([(.lt (.var 6) (.var 5),false)],coM (.var 1) (.var 0) (.var 6) (.var 5),.var 1),([(.lt (.var 6) (.var 5),false)],coR (.var 12) (.var 0) (.var 6) (.var 5),.var 12),([(.lt (.var 6) (.var 5),false)],coI (.var 13) (.var 0) (.var 6) (.var 5),.var 13),
 ([(.lt (.var 6) (.var 5),true)],coM (.var 1) (.var 0) (.var 6) (.var 5),coM mX (.var 0) nx6 (.var 5)),([(.lt (.var 6) (.var 5),true)],coR (.var 12) (.var 0) (.var 6) (.var 5),coR rX (.var 0) nx6 (.var 5)),([(.lt (.var 6) (.var 5),true)],coI (.var 13) (.var 0) (.var 6) (.var 5),coI iX (.var 0) nx6 (.var 5))]
def m5(k:Nat)(b:Bool):Bool:=(tCo k b).all ((cCo k).leaf (qX (bdL (cCo k).bds) 12 BK)) (jf b++(cCo k).pre)
theorem Eo:m5 0 true=true:=by kernel_rfl
theorem Ef:m5 0 false=true:=by kernel_rfl
theorem D6:m5 1 true=true:=by kernel_rfl
theorem ER:m5 1 false=true:=by kernel_rfl
theorem EO:((cCo 0).wf&&(cCo 1).wf)=true:=by kernel_rfl
theorem wI:((KCo 0).cons.all Con.wf&&(KCo 1).cons.all Con.wf)=true:=by kernel_rfl
section
variable{G:Nat->Int->Int->Int->Int}(hG:CopG G)
include hG
theorem dy{ρ:Env}(h1:ρ.std G gh)(X M1 p n:IE):(coM X M1 p n).ev ρ=g9 (X.ev ρ) (M1.ev ρ) (p.ev ρ).toNat (n.ev ρ-p.ev ρ).toNat/\(coR X M1 p n).ev ρ=nt (X.ev ρ) (M1.ev ρ) (p.ev ρ).toNat (n.ev ρ-p.ev ρ).toNat/\(coI X M1 p n).ev ρ=nR (X.ev ρ) (M1.ev ρ) (n.ev ρ) (p.ev ρ).toNat (n.ev ρ-p.ev ρ).toNat:=by
 refine ⟨?_,?_,?_⟩
 ·show fnI ρ 115 (X.ev ρ) (M1.ev ρ) ((pr9 p n).ev ρ)=_;rw [gF hG.c.l h1 (by decide),hG.m,pr9,jd hG.c.l.b h1,dK]
 ·show fnI ρ 116 (X.ev ρ) (M1.ev ρ) ((pr9 p n).ev ρ)=_;rw [gF hG.c.l h1 (by decide),hG.r,pr9,jd hG.c.l.b h1,dK]
 ·show fnI ρ 117 (X.ev ρ) (M1.ev ρ) ((pr9 p n).ev ρ)=_;rw [gF hG.c.l h1 (by decide),hG.i,pr9,jd hG.c.l.b h1,dK]
theorem yI{ρ:Env}(h1:ρ.std G gh)(h2:ρ.ok (bdL [ak 5,ak 6])):fC ρ BK:=by
 have h5:=h2 5 0 4096 rfl;have h6:=h2 6 0 4096 rfl;obtain ⟨p,hp⟩:=Int.eq_ofNat_of_zero_le h6.1;have e6:s66.ev ρ=((256*p:Nat):Int):=by show ρ.i 6*256=_; rw [hp]; omega
 have no: ∀ {b:Bool},decide (ρ.i 6<ρ.i 5)=b->(b=false->(ρ.i 5-ρ.i 6).toNat=0)/\(b=true-> ∃m,(ρ.i 5-ρ.i 6).toNat=m+1/\(ρ.i 5-(ρ.i 6+1)).toNat=m):=fun {b} h=>by
  refine ⟨fun e=> ?_,fun e=> ?_⟩
  ·subst e;have:=of_decide_eq_false h;omega
  ·subst e;have:=of_decide_eq_true h;exact ⟨(ρ.i 5-ρ.i 6).toNat-1,by omega,by omega⟩
 have t6:(ρ.i 6).toNat=p:=by omega
 have t7:(ρ.i 6+1).toNat=p+1:=by omega
 have erg:rgX.ev ρ=rg7 (ρ.i 0) p:=by
  show aN .and .i64 (IntKind.i64.wrap (fnI ρ 23 (ρ.i 0) (ρ.i 6) 0)) 7=_;rw [cj hG.c.l.b h1 (by decide) (by decide),hp]
  rfl
 have erX:rX.ev ρ=aD (ρ.i 12) (p:Nat) (rg7 (ρ.i 0) p):=by
  show aD (ρ.i 12) (ρ.i 6) (rgX.ev ρ)=_;rw [erg,hp]
 have r7:=Cp (ρ.i 0) p
 have emX:mX.ev ρ=AN (ρ.i 1) (ρ.i 0) p:=by
  have er:(IE.wrap .i64 (.fn 0 rX (.var 6) (.lit 0))).ev ρ=rg7 (ρ.i 0) p:=by
   show IntKind.i64.wrap (ag (rX.ev ρ) (ρ.i 6))=_;rw [erX,hp]
   have:ag (aD (ρ.i 12) (p:Nat) (rg7 (ρ.i 0) p)) (p:Nat)=rg7 (ρ.i 0) p:=by
    rw [cF ⟨r7.1,by omega⟩,if_pos rfl]
   show IntKind.i64.wrap (ag (aD (ρ.i 12) (p:Nat) (rg7 (ρ.i 0) p)) (p:Nat))=_;rw [this];exact bI .i64 _ (by simp only [kLo]; omega) (by simp only [kHi]; omega)
  show (IE.fn 31 _ _ _).ev ρ=_;rw [mJ hG.c.l h1,oN hG.c.l h1,(fS hG.c h1 _ _ _ _).1,e6];show prS _ (ρ.i 6) (aN .and .i64 ((IE.wrap .i64 (.fn 0 rX (.var 6) (.lit 0))).ev ρ) 3)=_;rw [er,hp];rfl
 have eiX:iX.ev ρ=DC (ρ.i 13) (ρ.i 0) (ρ.i 5) p:=by
  show lS (aY (ρ.i 13) 0 (s66.ev ρ)) (s66.ev ρ) (lS (aY ((cyE 114 (.lit 0) (.var 0) s66 (.lit 0)).ev ρ) 0 256) 256 (aY (ρ.i 13) (s66.ev ρ+256) (ρ.i 5*256)))=_;rw [(fS hG.c h1 _ _ _ _).2,e6];rfl
 refine cM (fun hd=> ?_) (cM (fun hd=> ?_) (cM (fun hd=> ?_) (cM (fun hd=> ?_) (cM (fun hd=> ?_) (cM (fun hd=> ?_) ct)))))
 ·have hd:decide (ρ.i 6<ρ.i 5)=false:=hd (.lt (.var 6) (.var 5),false) (by simp)
  rw [(dy hG h1 _ _ _ _).1];show g9 (ρ.i 1) (ρ.i 0) (ρ.i 6).toNat (ρ.i 5-ρ.i 6).toNat=ρ.i 1;rw [(no hd).1 rfl];rfl
 ·have hd:decide (ρ.i 6<ρ.i 5)=false:=hd (.lt (.var 6) (.var 5),false) (by simp)
  rw [(dy hG h1 _ _ _ _).2.1];show nt (ρ.i 12) (ρ.i 0) (ρ.i 6).toNat (ρ.i 5-ρ.i 6).toNat=ρ.i 12;rw [(no hd).1 rfl];rfl
 ·have hd:decide (ρ.i 6<ρ.i 5)=false:=hd (.lt (.var 6) (.var 5),false) (by simp)
  rw [(dy hG h1 _ _ _ _).2.2];show nR (ρ.i 13) (ρ.i 0) (ρ.i 5) (ρ.i 6).toNat (ρ.i 5-ρ.i 6).toNat=ρ.i 13;rw [(no hd).1 rfl];rfl
 ·have hd:decide (ρ.i 6<ρ.i 5)=true:=hd (.lt (.var 6) (.var 5),true) (by simp)
  obtain ⟨m,m1,m2⟩:=(no hd).2 rfl;rw [(dy hG h1 _ _ _ _).1,(dy hG h1 _ _ _ _).1,emX];show g9 (ρ.i 1) (ρ.i 0) (ρ.i 6).toNat (ρ.i 5-ρ.i 6).toNat=g9 _ (ρ.i 0) (ρ.i 6+1).toNat (ρ.i 5-(ρ.i 6+1)).toNat;rw [m1,m2,t6,t7];rfl
 ·have hd:decide (ρ.i 6<ρ.i 5)=true:=hd (.lt (.var 6) (.var 5),true) (by simp)
  obtain ⟨m,m1,m2⟩:=(no hd).2 rfl;rw [(dy hG h1 _ _ _ _).2.1,(dy hG h1 _ _ _ _).2.1,erX];show nt (ρ.i 12) (ρ.i 0) (ρ.i 6).toNat (ρ.i 5-ρ.i 6).toNat=nt _ (ρ.i 0) (ρ.i 6+1).toNat (ρ.i 5-(ρ.i 6+1)).toNat;rw [m1,m2,t6,t7];rfl
 ·have hd:decide (ρ.i 6<ρ.i 5)=true:=hd (.lt (.var 6) (.var 5),true) (by simp)
  obtain ⟨m,m1,m2⟩:=(no hd).2 rfl;rw [(dy hG h1 _ _ _ _).2.2,(dy hG h1 _ _ _ _).2.2,eiX];show nR (ρ.i 13) (ρ.i 0) (ρ.i 5) (ρ.i 6).toNat (ρ.i 5-ρ.i 6).toNat=nR _ (ρ.i 0) (ρ.i 5) (ρ.i 6+1).toNat (ρ.i 5-(ρ.i 6+1)).toNat;rw [m1,m2,t6,t7];rfl
omit hG in
theorem uT{ρ:Env}(h2:ρ.ok (bdL [ak 5,ak 6])):(jf (decide (ρ.i 6<ρ.i 5))).holds ρ:=by
 have h5:=h2 5 0 4096 rfl;have h6:=h2 6 0 4096 rfl;have a6:s66.ev ρ=ρ.i 6*256:=rfl;have a5:s56.ev ρ=ρ.i 5*256:=rfl
 have aA:qA.ev ρ=ρ.i 6:=by
  show (ρ.i 6*256+256-1).tdiv 256=_;rw [Int.tdiv_eq_ediv_of_nonneg (by omega)]
  omega
 have aB:qB.ev ρ=ρ.i 6:=by
  show (ρ.i 6*256).tdiv 256=_;rw [Int.tdiv_eq_ediv_of_nonneg (by omega)]
  omega
 have aL:sL.ev ρ=(ρ.i 6+1)*256-ρ.i 6*256:=rfl
 by_cases h:ρ.i 6<ρ.i 5
 ·rw [decide_eq_true h];intro x hx;simp only [jf,List.mem_cons,List.not_mem_nil,or_false] at hx
  rcases hx with rfl |rfl |rfl |rfl |rfl |rfl |rfl |rfl |rfl
  ·exact decide_eq_true h
  ·exact decide_eq_true (show s66.ev ρ<s56.ev ρ by rw [a6,a5]; omega)
  ·exact decide_eq_false (show ¬s56.ev ρ-s66.ev ρ<256 by rw [a6,a5]; omega)
  ·exact decide_eq_false (show ¬qA.ev ρ<qB.ev ρ by rw [aA,aB]; omega)
  ·exact decide_eq_true (show qA.ev ρ<qB.ev ρ+1 by rw [aA,aB]; omega)
  ·exact decide_eq_false (show ¬s66.ev ρ<0 by rw [a6]; omega)
  ·exact decide_eq_false (show ¬s56.ev ρ<s66.ev ρ+256 by rw [a6,a5]; omega)
  ·exact decide_eq_false (show ¬sL.ev ρ<256 by rw [aL]; omega)
  ·exact decide_eq_false (show ¬256<sL.ev ρ by rw [aL]; omega)
 ·rw [decide_eq_false h];intro x hx;simp only [jf,List.mem_cons,List.not_mem_nil,or_false] at hx;subst hx;exact decide_eq_false h
omit hG in
theorem BR:cOn.Ok PR G gh:=by
 have h:=Cm;rw [Bool.and_eq_true] at h;exact bA bc h.1
theorem zS{k:Nat}(hk:k<2):(KCo k).Ok PR G gh:=by
 have hg:oth k<2:=two (p:=fun k=>oth k<2) (by decide) (by decide) hk
 have hw:(KCo k).cons.all Con.wf=true:=by
  have h:=wI;rw [Bool.and_eq_true] at h;exact two (p:=fun k=>(KCo k).cons.all Con.wf=true) h.1 h.2 hk
 refine ⟨ku hw fun c hc=> ?_,fun c hc=> ?_⟩
 ·simp only [KCo,List.mem_cons,List.not_mem_nil,or_false] at hc
  rcases hc with rfl |rfl |rfl |rfl
  ·exact yb hG.c.l.b hg
  ·exact (ll hG.c.l.b hk).2
  ·exact j9 hG.c.l.b hk
  ·exact BR
 ·simp only [KCo,List.mem_cons,List.not_mem_nil,or_false] at hc;subst hc;exact Ak hG.c hg
theorem Cy{k:Nat}(hk:k<2):(cCo k).wf=true/\(lCo k).Ok PR G gh:=by
 have hw:=EO;rw [Bool.and_eq_true] at hw;have hw:=two (p:=fun k=>(cCo k).wf=true) hw.1 hw.2 hk
 have hb:(cCo k).bds=[ak 5,ak 6]:=rfl
 have run: ∀b,m5 k b=true:=fun b=>by
  cases b
  ·exact two (p:=fun k=>m5 k false=true) Ef ER hk
  ·exact two (p:=fun k=>m5 k true=true) Eo D6 hk
 exact ⟨hw,ba.BV (c:=lCo k) mixed (zS hG hk) hw rfl jf 20 aG no' 16 12 μCo BK (fun ρ h1 h2 _=>yI hG h1 h2) fun ρ h1 h2 _=>⟨_,uT h2,run _⟩⟩
end
def gn(ρ:Env)(o o':ah):Prop:=o=o'\/ ∃k e e' cv,o= .ghost k [e] cv/\o'= .ghost k [e'] cv/\e.ev ρ=e'.ev ρ
def cN(ρ:Env)(l l':List ah):Prop:=l.length=l'.length/\ ∀(i:Nat) (o o':ah),l[i]? =some o->l'[i]? =some o'->gn ρ o o'
theorem gn.rel{ρ:Env}{o o':ah}(h:gn ρ o o'){f:Ren}{B:Nat->Prop}{w:World}{L:Sx.Loc}:(c9 ρ f B w L o->c9 ρ f B w L o')/\(∀ b,o'.aZ ρ w L b->o.aZ ρ w L b)/\o.own=o'.own/\o.dead=o'.dead:=by
 rcases h with rfl | ⟨k,e,e',cv,rfl,rfl,he⟩
 ·exact ⟨id,fun _ h=>h,rfl,rfl⟩
 ·refine ⟨fun h=> ?_,fun _ h=>h,rfl,rfl⟩
  have e1:([e'].map (·.ev ρ))=[e].map (·.ev ρ):=by simp [he]
  show ((ρ.gh k).rel ([e'].map (·.ev ρ)) w L.blk L.base/\_)/\_;rw [e1];exact h
theorem fx(ρ:Env)(l:List ah):cN ρ l l:=⟨rfl,fun i o o' h h'=> .inl (Option.some.inj (h.symm.trans h'))⟩
theorem bL{ρ:Env}{o o':ah}{l l':List ah}(h:gn ρ o o')(hl:cN ρ l l'):cN ρ (o::l) (o'::l'):=⟨congrArg (· +1) hl.1,fun i x x' hx hx'=>by
 cases i with
 |zero=>
  have e1:o=x:=Option.some.inj hx;have e2:o'=x':=Option.some.inj hx';rw [<- e1,<-e2];exact h
 |succ i=>exact hl.2 i x x' hx hx'⟩
theorem ja{ρ:Env}{l l' m:List ah}(h:cN ρ l l'):cN ρ (l++m) (l'++m):=by
 refine ⟨by rw [List.length_append,List.length_append,h.1],fun i x x' hx hx'=> ?_⟩
 by_cases hi:i<l.length
 ·rw [List.getElem?_append_left hi] at hx;rw [List.getElem?_append_left (by rw [<- h.1]; exact hi)] at hx'
  exact h.2 i x x' hx hx'
 ·rw [List.getElem?_append_right (by omega)] at hx
  rw [List.getElem?_append_right (by rw [<- h.1]; omega),<-h.1] at hx'
  exact .inl (Option.some.inj (hx.symm.trans hx'))
theorem pH{ρ:Env}{l m m':List ah}(h:cN ρ m m'):cN ρ (l++m) (l++m'):=by
 induction l with
 |nil=>exact h
 |cons x l ih=>exact bL (.inl rfl) ih
theorem gJ{ρ:Env}{k:Nat}{e e':IE}{cv:T ab}(h:e.ev ρ=e'.ev ρ):gn ρ (.ghost k [e] cv) (.ghost k [e'] cv):= .inr ⟨k,e,e',cv,rfl,rfl,h⟩
theorem vK{ρ:Env}{k:Nat}{e e':IE}{own:Bool}(h:e.ev ρ=e'.ev ρ):cN ρ (hZ k e own) (hZ k e' own):=by
 match k with
 |0=>exact bL (.inl rfl) (bL (gJ h) (fx ρ []))
 |k+1=>exact bL (gJ h) (fx ρ [])
theorem vY{ρ:Env}{k i:Nat}{e e':IE}(h:e.ev ρ=e'.ev ρ):cN ρ (hO k i e) (hO k i e'):=by
 match k with
 |0=>exact bL (.inl rfl) (bL (gJ h) (fx ρ []))
 |k+1=>exact bL (gJ h) (fx ρ [])
theorem Con.Dh{P:Program}{G:Nat->Int->Int->Int->Int}{GH:Nat->bz}{c:Con}{os2:List ah}(hlen:os2.length<1000000)(hc:c.Ok P G GH)
 (hq: ∀(ρ:Env) (B:Nat->Prop) (W:World) (f:Ren) (w:World) (args':Array Value),ρ.std G GH->ρ.ok (bdL c.bds)->c.pre.holds ρ->au ρ B W f (aF c.os 0 .nil) w->az ρ f c.args args'->cN ρ c.os' os2):Con.Ok P G GH {c with os':=os2}:=by
 intro ρ h1 h2 h3 B W f w args' hr ha hn;obtain ⟨hl,hs⟩:=hq ρ B W f w args' h1 h2 h3 hr ha;refine dh P c.g _ _ _ _ (hc ρ h1 h2 h3 B W f w args' hr ha hn) fun v' w' ⟨f',a1,a2,a3,a4⟩=>⟨f',a1,fun j hj=>a2 j (by rw [hl]; exact hj),?_,a4⟩
 have back: ∀(j:Nat) (x:ah),(je os2 0 T.nil).get j=some x-> ∃o,(je c.os' 0 T.nil).get j=some o/\gn ρ o x:=fun j x hx=>by
  obtain ⟨h4,h5⟩:=ik hx;have hlt:=(List.getElem?_eq_some_iff.1 h4).1;have ho:c.os'[j]? =some c.os'[j]:=List.getElem?_eq_getElem (by omega)
  have hsame:=hs j _ x ho h4;refine ⟨_,?_,hsame⟩;have:=f9 c.os' 0 j .nil _ ho (by rw [(hsame.rel (f:=f) (B:=B) (w:=w) (L:=⟨0,0,0⟩)).2.2.2]; exact h5) (by omega)
  rwa [Nat.zero_add] at this
 refine ⟨a3.below,a3.bsize,a3.lt,fun i j Li Lj oi oj hi hj gi gj hij ho b hb hb'=> ?_,fun i L o hi gi=> ?_⟩
 ·obtain ⟨x,gx,sx⟩:=back i oi gi;obtain ⟨y,gy,sy⟩:=back j oj gj;have rx:=sx.rel (f:=f') (B:=B) (w:=w') (L:=Li);have ry:=sy.rel (f:=f') (B:=B) (w:=w') (L:=Lj);exact a3.apart i j Li Lj x y hi hj gx gy hij (rx.2.2.1.trans ho) b (rx.2.1 b hb) (ry.2.1 b hb')
 ·obtain ⟨x,gx,sx⟩:=back i o gi;exact sx.rel.1 (a3.obj i L x hi gx)
theorem kH{G:Nat->Int->Int->Int->Int}{ρ:Env}(h1:ρ.std G gh){B:Nat->Prop}{W w:World}{f:Ren}{os:List ah}(hlen:os.length<1000000)(hr:au ρ B W f (aF os 0 .nil) w){i:Nat}{L:Sx.Loc}(hL:f i=some L){k:Nat}(hk:k<2){M:IE}{cv:T ab}(hg:os[i]? =some (.ghost k [M] cv)):bn (M.ev ρ):=by
 have hgh:ρ.gh k=cW (gK k) slT:=by rw [h1.2]; exact iW hk
 have hgt:(aF os 0 T.nil).get i=some (.ghost k [M] cv):=by
  have:=aU os 0 i .nil _ hg (by omega)
  rwa [Nat.zero_add] at this
 obtain ⟨⟨hrel,_⟩,_⟩:=hr.obj i L _ hL hgt;rw [hgh] at hrel;obtain ⟨Mv,Pg,hM,hm,_⟩:=hrel;have hM:M.ev ρ=Mv:=(List.cons.inj hM).1;subst hM;exact hm.ok
theorem cell_of{ρ:Env}{B:Nat->Prop}{W w:World}{f:Ren}{os:List ah}(hlen:os.length<1000000)(hr:au ρ B W f (aF os 0 .nil) w){i:Nat}{L:Sx.Loc}(hf:f i=some L){c:T ab}{e:TypeId}{own:Bool}{top:Nat}(ho:os[i]? =some (.cells c e own top)){j:Nat}{v:ab}(hv:c.get j=some v): ∃v',ai ρ f v v':=by
 have hg:=aU os 0 i .nil _ ho (by omega)
 rw [Nat.zero_add] at hg;obtain ⟨cs,fr,_,_,_,h4⟩:=hr.obj i L _ hf hg;obtain ⟨_,v',_,h6⟩:=h4 j v hv;exact ⟨v',h6⟩
theorem xw{ρ:Env}{f:Ren}{i:Nat}{v:Value}(h:ai ρ f (.ptr (some (i,0))) v): ∃L,f i=some L:=by
 cases h with
 |ptr h=>exact ⟨_,h⟩
theorem xO{ρ:Env}{f:Ren}{t:TypeId}{i:Nat}{v:Value}(h:ai ρ f (.iface t (.ptr (some (i,0)))) v): ∃L,f i=some L:=by
 cases h with
 |iface h=>exact xw h
def aca(k i:Nat):Nat:=match k with
 |0=>Nat.add i 1
 |_=>i
theorem gM{ρ:Env}{B:Nat->Prop}{W w:World}{f:Ren}{os:List ah}(hlen:os.length<1000000)(hr:au ρ B W f (aF os 0 .nil) w){k i:Nat}{v:Value}(hv:ai ρ f (hV k i) v)(hc:k=0-> ∃c e own top,os[i]? =some (.cells c e own top)/\c.get 0=some (.ptr (some (i+1,0)))): ∃L,f (aca k i)=some L:=by
 match k with
 |0=>
  obtain ⟨L,hL⟩:=xO hv;obtain ⟨c,e,own,top,h0,h1⟩:=hc rfl;obtain ⟨v',h2⟩:=cell_of hlen hr hL h0 h1;exact xw h2
 |k+1=>exact xO hv
theorem lX{M v:Int}{i:Int}(h0:0<=i)(h3:i≠3)(h7:i≠7):mN (aD M i v)=mN M/\aP (aD M i v)=aP M:=by
 obtain ⟨n,rfl⟩:=Int.eq_ofNat_of_zero_le h0;exact iy (by omega) (by omega)
theorem fu(M p r:Int):mN (prS M p r)=mN M/\aP (prS M p r)=aP M:=by
 unfold prS;split
 ·exact lX (by omega) (by omega) (by omega)
 ·exact ⟨rfl,rfl⟩
theorem wy{M a b:Int}(h:0<=a):mN (stS M a b)=mN M/\aP (stS M a b)=aP M:=by
 unfold stS;split
 ·exact lX (by omega) (by omega) (by omega)
 ·exact ⟨rfl,rfl⟩
theorem mz{a d:Int}: ∀(k i:Nat) (M:Int),mN (poF M a d i k)=mN M/\aP (poF M a d i k)=aP M:=by
 intro k
 induction k with
 |zero=>intro i M; exact ⟨rfl,rfl⟩
 |succ k ih=>
  intro i M;have h1:=ih (i+1) (stS M (ad a i) (IntKind.u8.wrap (ag d i)));have h2:=wy (M:=M) (b:=IntKind.u8.wrap (ag d i)) (D1 a i).1;exact ⟨h1.1.trans h2.1,h1.2.trans h2.2⟩
theorem tD{M:Int}{ix:Nat->Nat}{g:Nat->Int}(h: ∀j,ix j≠3/\ix j≠7): ∀n,mN (fP M ix g n)=mN M/\aP (fP M ix g n)=aP M:=by
 intro n
 induction n with
 |zero=>exact ⟨rfl,rfl⟩
 |succ n ih=>
  have:=iy (M:=fP M ix g n) (v:=g n) (h n).1 (h n).2;exact ⟨this.1.trans ih.1,this.2.trans ih.2⟩
theorem xK(M p d n:Int):mN (scS M p d n)=mN M/\aP (scS M p d n)=aP M:=by
 unfold scS;split
 ·exact tD (fun j=>by unfold ixC; omega) _
 ·exact ⟨rfl,rfl⟩
theorem wk(k:Nat)(M:Int)(p:Nat):mN (zr1 k M p)=mN M/\aP (zr1 k M p)=aP M:=by
 have h1:=mz (a:=(256*p:Nat)) (d:=0) 256 0 M
 match k with
 |0=>
  have h2:=fu (poF M (256*p:Nat) 0 0 256) (p:Nat) 0;exact ⟨h2.1.trans h1.1,h2.2.trans h1.2⟩
 |k+1=>
  have h3:=xK (poF M (256*p:Nat) 0 0 256) (p:Nat) 0 256;have h2:=fu (scS (poF M (256*p:Nat) 0 0 256) (p:Nat) 0 256) (p:Nat) 0;exact ⟨h2.1.trans (h3.1.trans h1.1),h2.2.trans (h3.2.trans h1.2)⟩
theorem uZ(kd:Nat): ∀(k p:Nat) (M:Int),mN (zrF kd M p k)=mN M/\aP (zrF kd M p k)=aP M:=by
 intro k
 induction k with
 |zero=>intro p M; exact ⟨rfl,rfl⟩
 |succ k ih=>
  intro p M;have h1:=ih (p+1) (zr1 kd M p);have h2:=wk kd M p;exact ⟨h1.1.trans h2.1,h1.2.trans h2.2⟩
theorem we: ∀(k b p:Nat) (M:Int),mN (pcF M b p k)=mN M/\aP (pcF M b p k)=aP M:=by
 intro k
 induction k with
 |zero=>intro b p M; exact ⟨rfl,rfl⟩
 |succ k ih=>
  intro b p M;have h1:=ih b (p+1) (prS M ((b+p:Nat):Int) 5);have h2:=fu M ((b+p:Nat):Int) 5;exact ⟨h1.1.trans h2.1,h1.2.trans h2.2⟩
theorem sM: ∀(k p:Nat) (M2 M1:Int),mN (g9 M2 M1 p k)=mN M2/\aP (g9 M2 M1 p k)=aP M2:=by
 intro k
 induction k with
 |zero=>intro p M2 M1; exact ⟨rfl,rfl⟩
 |succ k ih=>
  intro p M2 M1;have h1:=ih (p+1) (AN M2 M1 p) M1;have h2:=fu (poF M2 (256*p:Nat) (cyF pkS 0 M1 (256*p:Nat) 0 256) 0 256) (p:Nat) (aN .and .i64 (rg7 M1 p) 3);have h3:=mz (a:=(256*p:Nat)) (d:=cyF pkS 0 M1 (256*p:Nat) 0 256) 256 0 M2;exact ⟨h1.1.trans (h2.1.trans h3.1),h1.2.trans (h2.2.trans h3.2)⟩
theorem AB{M a b:Int}(h:0<=M):0<=stS M a b:=by unfold stS; split; exact lH _ _ _; exact h
theorem iM{M p r:Int}(h:0<=M):0<=prS M p r:=by unfold prS; split; exact lH _ _ _; exact h
theorem oP{a d:Int}: ∀(k i:Nat) (M:Int),0<=M->0<=poF M a d i k:=by
 intro k
 induction k with
 |zero=>intro i M h; exact h
 |succ k ih=>intro i M h; exact ih _ _ (AB h)
theorem x8{M:Int}{ix:Nat->Nat}{g:Nat->Int}(h:0<=M): ∀n,0<=fP M ix g n:=by
 intro n;cases n with
 |zero=>exact h
 |succ n=>exact lH _ _ _
theorem B5{M p d n:Int}(h:0<=M):0<=scS M p d n:=by unfold scS; split; exact x8 h _; exact h
theorem Ax(kd:Nat): ∀(k p:Nat) (M:Int),0<=M->0<=zrF kd M p k:=by
 intro k
 induction k with
 |zero=>intro p M h; exact h
 |succ k ih=>
  intro p M h;refine ih _ _ ?_
  match kd with
  |0=>exact iM (oP _ _ _ h)
  |_+1=>exact iM (B5 (oP _ _ _ h))
theorem Co: ∀(k b p:Nat) (M:Int),0<=M->0<=pcF M b p k:=by
 intro k
 induction k with
 |zero=>intro b p M h; exact h
 |succ k ih=>intro b p M h; exact ih _ _ _ (iM h)
theorem yG: ∀(k p:Nat) (M2 M1:Int),0<=M2->0<=g9 M2 M1 p k:=by
 intro k
 induction k with
 |zero=>intro p M2 M1 h; exact h
 |succ k ih=>intro p M2 M1 h; exact ih _ _ _ (iM (oP _ _ _ h))
def hdE(M n:IE):IE:= .fn 1 M (.lit 3) n
theorem wZ{ρ:Env}{M n:IE}(h:0<=M.ev ρ)(hn:mN (M.ev ρ)=n.ev ρ):(hdE M n).ev ρ=M.ev ρ:=by
 show aD (M.ev ρ) 3 (n.ev ρ)=_;rw [<- hn];exact iq h 3
section
variable{G:Nat->Int->Int->Int->Int}(hG:LevG G)
include hG
theorem BZ{k:Nat}(hk:k<2)(hw:(KLv k).cons.all Con.wf=true):(KLv k).Ok PR G gh:=by
 refine ⟨ku hw fun c hc=> ?_,fun c hc=> ?_⟩
 ·simp only [KLv,Zh,List.mem_cons,List.not_mem_nil,or_false] at hc
  rcases hc with rfl |rfl |rfl |rfl
  ·exact MB hk
  ·exact (ll hG.b hk).2
  ·exact EW hG.b hk
  ·exact j9 hG.b hk
 ·simp only [KLv,List.mem_cons,List.not_mem_nil,or_false] at hc
  rcases hc with rfl |rfl
  ·exact AI hG hk
  ·exact BY hG hk
end
theorem wM:((KLv 0).cons.all Con.wf&&(KLv 1).cons.all Con.wf)=true:=by kernel_rfl
def Bw(k:Nat):Con:={cLv k with os':=hZ k (hdE (lvM k (.var 0) nE (.var 2) (.var 3)) nE) true++lvO k (.var 2) (.var 3)}
section
variable{G:Nat->Int->Int->Int->Int}(hG:LevG G)
include hG
theorem Ab{k:Nat}(hk:k<2):(cLv k).Ok PR G gh:=by
 have hw:=wM;rw [Bool.and_eq_true] at hw;exact bA (BZ hG hk (two (p:=fun k=>(KLv k).cons.all Con.wf=true) hw.1 hw.2 hk)) (two (p:=fun k=>fq (cLv k) (KLv k) 20 14 12=true) CG Ds hk)
theorem zQ{k:Nat}(hk:k<2){ρ:Env}(h1:ρ.std G gh)(M n b c:IE):(lvM k M n b c).ev ρ=pcF (prS (zrF k (M.ev ρ) 0 (n.ev ρ).toNat) (b.ev ρ) 3) (b.ev ρ+1).toNat 0 (c.ev ρ).toNat:=by
 unfold lvM;rw [kW hG h1,mJ hG h1,j7 hG hk h1];show pcF (prS (zrF k (M.ev ρ) 0 (n.ev ρ-0).toNat) (b.ev ρ) 3) (b.ev ρ+1).toNat 0 (c.ev ρ-0).toNat=_;rw [Int.sub_zero,Int.sub_zero]
theorem qn{k:Nat}(hk:k<2):(Bw k).Ok PR G gh:=by
 have hl: ∀M,(hZ k M true++lvO k (.var 2) (.var 3)).length<1000000:=fun M=>by
  match k,hk with
  |0,_=>exact (by decide:(9:Nat)<1000000)
  |1,_=>exact (by decide:(7:Nat)<1000000)
 refine Con.Dh (c:=cLv k) (hl _) (Ab hG hk) fun ρ B W f w args' h1 h2 h3 hr ha=> ?_
 have hm:bn (ρ.i 0):=by
  obtain ⟨v,_,hv⟩:=ha.get (show (cLv k).args[1]? =some (hV k 0) from rfl)
  match k,hk,hr,hv with
  |0,_,hr,hv=>
   obtain ⟨L,hL⟩:=gM (by decide) hr hv fun _=>⟨_,_,_,_,rfl,rfl⟩
   exact kH h1 (by decide) hr hL (by decide) (show (cLv 0).os[1]? =some (.ghost 0 [.var 0] .nil) from rfl)
  |1,_,hr,hv=>
   obtain ⟨L,hL⟩:=gM (by decide) hr hv fun h=>(by cases h)
   exact kH h1 (by decide) hr hL (by decide) (show (cLv 1).os[0]? =some (.ghost 1 [.var 0] (aX st0 2)) from rfl)
 have e:=zQ hG hk h1 (.var 0) nE (.var 2) (.var 3)
 have hd:(hdE (lvM k (.var 0) nE (.var 2) (.var 3)) nE).ev ρ=(lvM k (.var 0) nE (.var 2) (.var 3)).ev ρ:=by
  refine wZ ?_ ?_
  ·rw [e];exact Co _ _ _ _ (iM (Ax _ _ _ _ hm.k.pos))
  ·rw [e,(we _ _ _ _).1,(fu _ _ _).1,(uZ _ _ _ _).1];rfl
 exact ja (vK hd.symm)
end
def rT(g:Nat):List ah:=match g with
 |0=>[.cells (aX (.ptr (some (1,0))::b9 (.var 91)) 0) 100 false 25,.ghost 0 [.var 0] .nil]
 |_=>[.ghost 1 [.var 0] (aX (b9 (.var 91)) 2)]
def n1E:IE:= .fn 0 (.var 1) (.lit 3) (.lit 0)
def Em(k:Nat):List ah:= .cells (aF st0 11 (nH k (hL (oth k)) nE)) 90 true 45::(hO k (Nat.add (hL (oth k)) 1) (.var 1)++(.arr [.i64] (.var 12) nE true::(imO k nE (.var 13)++[caP,.map []])))
def uH(k:Nat)(M:IE):List ah:= .cells (nH k (hL (oth k)) nE) 90 true 45::(hO k (Nat.add (hL (oth k)) 1) M++(.arr [.i64] (coR (.var 12) (.var 0) (.lit 0) nE) nE true::(imO k nE (coI (.var 13) (.var 0) (.lit 0) nE)++[caP,.map []])))
def coA:IE:=coM (.var 1) (.var 0) (.lit 0) nE
def cCp(k:Nat):Con:={g:=22,args:=[hV (oth k) 0,lvI (hL (oth k))],os:=rT (oth k)++Em k,pre:=[(.lt nE (.lit 0),false),(.lt (.lit 4096) nE,false)],res:= .int .i64 (.lit 0),os':=rT (oth k)++uH k coA}
def KCp(k:Nat):Know:=⟨[tM (oth k)],[lCo k]⟩
theorem Cz:fq (cCp 0) (KCp 0) 20 14 12=true:=by kernel_rfl
theorem CH:fq (cCp 1) (KCp 1) 20 14 12=true:=by kernel_rfl
def zN(k:Nat):Con:={cCp k with os':=rT (oth k)++uH k (hdE coA n1E)}
theorem wG:((KCp 0).cons.all Con.wf&&(KCp 1).cons.all Con.wf)=true:=by kernel_rfl
section
variable{G:Nat->Int->Int->Int->Int}(hG:CopG G)
include hG
theorem Cf{k:Nat}(hk:k<2):(KCp k).Ok PR G gh:=by
 have hg:oth k<2:=two (p:=fun k=>oth k<2) (by decide) (by decide) hk
 have hw:(KCp k).cons.all Con.wf=true:=by
  have h:=wG;rw [Bool.and_eq_true] at h;exact two (p:=fun k=>(KCp k).cons.all Con.wf=true) h.1 h.2 hk
 refine ⟨ku hw fun c hc=> ?_,fun c hc=> ?_⟩
 ·simp only [KCp,List.mem_cons,List.not_mem_nil,or_false] at hc;subst hc;exact MB hg
 ·simp only [KCp,List.mem_cons,List.not_mem_nil,or_false] at hc;subst hc;exact Cy hG hk
theorem Bq{k:Nat}(hk:k<2):(cCp k).Ok PR G gh:=bA (Cf hG hk) (two (p:=fun k=>fq (cCp k) (KCp k) 20 14 12=true) Cz CH hk)
theorem uG{k:Nat}(hk:k<2){ρ:Env}(h1:ρ.std G gh){B:Nat->Prop}{W w:World}{f:Ren}{args':Array Value}(hr:au ρ B W f (aF (cCp k).os 0 .nil) w)(ha:az ρ f (cCp k).args args'):bn (ρ.i 1):=by
 obtain ⟨v,_,hv⟩:=ha.get (show (cCp k).args[1]? =some (lvI (hL (oth k))) from rfl)
 obtain ⟨L,hL'⟩:=xO hv
 match k,hk,hr,hL' with
 |0,_,hr,hL'=>
  obtain ⟨u,hu⟩:=cell_of (by decide) hr hL' (show (cCp 0).os[1]? =some (.cells (aF st0 11 (nH 0 1 nE)) 90 true 45) from rfl) (show (aF st0 11 (nH 0 1 nE)).get 2=some (hV 0 2) by kernel_rfl)
  obtain ⟨K,hK⟩:=gM (by decide) hr hu fun _=>⟨_,_,_,_,rfl,rfl⟩
  exact kH h1 (by decide) hr hK (by decide) (show (cCp 0).os[3]? =some (.ghost 0 [.var 1] .nil) from rfl)
 |1,_,hr,hL'=>
  obtain ⟨u,hu⟩:=cell_of (by decide) hr hL' (show (cCp 1).os[2]? =some (.cells (aF st0 11 (nH 1 2 nE)) 90 true 45) from rfl) (show (aF st0 11 (nH 1 2 nE)).get 2=some (hV 1 3) by kernel_rfl)
  obtain ⟨K,hK⟩:=gM (by decide) hr hu fun h=>(by cases h)
  exact kH h1 (by decide) hr hK (by decide) (show (cCp 1).os[3]? =some (.ghost 1 [.var 1] (mu 1)) from rfl)
theorem pV{k:Nat}(hk:k<2):(zN k).Ok PR G gh:=by
 have hl: ∀M,(rT (oth k)++uH k M).length<1000000:=fun M=>by
  match k,hk with
  |0,_=>exact (by decide:(8:Nat)<1000000)
  |1,_=>exact (by decide:(7:Nat)<1000000)
 refine Con.Dh (c:=cCp k) (hl _) (Bq hG hk) fun ρ B W f w args' h1 h2 h3 hr ha=> ?_
 have hm:=uG hG hk h1 hr ha;have e:coA.ev ρ=g9 (ρ.i 1) (ρ.i 0) 0 (nE.ev ρ-0).toNat:=(dy hG h1 (.var 1) (.var 0) (.lit 0) nE).1
 have hd:(hdE coA n1E).ev ρ=coA.ev ρ:=by
  refine wZ ?_ ?_
  ·rw [e];exact yG _ _ _ _ hm.k.pos
  ·rw [e,(sM _ _ _ _).1];rfl
 exact pH (bL (.inl rfl) (ja (vY hd.symm)))
end
end
end Go.Proofs.YtpdhneemedlgaaaGreat

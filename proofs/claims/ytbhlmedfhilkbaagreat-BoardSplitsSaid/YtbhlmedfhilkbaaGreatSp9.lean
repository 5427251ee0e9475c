/- BoardSplits: lists that are the same; the law's runs. No condition. -/
import Derived.Test.YtbhlmedfhilkbaaGreatSp7
import Derived.Test.YtbhlmedfhilkbaaGreatBi3
set_option linter.unusedSimpArgs false
set_option linter.unusedVariables false
set_option linter.unusedSectionVars false
namespace Go.Proofs.YtbhlmedfhilkbaaGreat
open Go Go.Sx
set_option maxRecDepth 1000000
noncomputable section
def FQe:Fns:=⟨144,145,[42,44,43,2]⟩
def ah7(j:Nat):IntKind:=match j with
 |0=> .i64
 |1=> .u32
 |2=> .u32
 |j=>D3 (j-3)
def agz(j:Nat):IE:=match j with
 |0=> .mul (.var 2) (.lit 27)
 |j=> .add (.mul (.var 2) (.lit 27)) (.lit (.ofNat j))
def eqJ(j:Nat):BE:= .eq (.wrap (ah7 j) (.fn 0 (.var 42) (agz j) (.lit 0))) (.wrap (ah7 j) (.fn 0 (.var 44) (agz j) (.lit 0)))
def aff:List IE:=[.var 42,.var 44,.var 43,.add (.var 2) (.lit 1)]
def eqH:List Nat->HT
 | []=> .again aff
 |j::l=> .split (eqJ j) (eqH l) (.done [.lit 0])
def inQ:BE:= .lt (.var 2) (.var 43)
def evH:HT:= .split inQ (eqH (List.range 27)) (.done [.lit 1])
theorem agk:evH.rt.only (bR FQe.vars) 144=true:=by kernel_rfl
def afc(l:List IE):BE:= .eq (.fn 145 (uS l) (.lit 0) (.lit 0)) (.lit 1)
def eqP(prog:Bool):Nat:=match prog with
 |true=>70
 |false=>22
def eqA(prog:Bool)(a b n i:ab):List ab:=match prog with
 |true=>[a,b,n,i]
 |false=>[a,b,i]
def slQ(prog:Bool):List Nat:=match prog with
 |true=>[0,1,12,13]
 |false=>[0,1,5]
def ah9:ah:= .arr Df (.var 44) (.var 45) true
def ai8:ab:= .sliceA 0 (.var 43) 27
def ai9:ab:= .sliceA 1 (.var 45) 27
def agq:BE×Bool:=(.eq (.var 43) (.var 45),true)
def cQL(prog:Bool):Con:={g:=eqP prog,args:=eqA prog ai8 ai9 (.int .i64 (.var 43)) (.int .i64 (.var 2)),os:=[uZ,ah9],bds:=[(43,0,60000000),(45,0,60000000),(2,0,60000000)],pre:=[agq,(.lt (.var 43) (.var 2),false),(afc [.var 42,.var 44,.var 43,.var 2],true)],res:= .tuple [],os':=[uZ,ah9]}
def lQQ(prog:Bool):ba:={con:=cQL prog,key:=5,n:=26,sl:=slQ prog,e:= .exit 0,sl':=[]}
def ah2(go:Bool):Dec:=match go with
 |true=>(inQ,true)::(.lt (.var 2) (.var 45),true)::(.lt (.var 43) (.add (.var 2) (.lit 1)),false)::(afc aff,true)::(List.range 27).map fun j=>(eqJ j,true)
 |false=>[(inQ,false)]
def tQQ(prog go:Bool):Out:=(lQQ prog).tree PR ⟨[],[]⟩ 40 aG no' 12 (ah2 go) (.sub (.var 43) (.var 2))
def qOk(prog go:Bool):Bool:=(tQQ prog go).all ((cQL prog).leaf (qP (bdL (cQL prog).bds) 12)) (ah2 go++(cQL prog).pre)
def cQe(prog:Bool):Con:={g:=eqP prog,args:=[ai8,ai9],os:=[uZ,ah9],bds:=[(43,0,60000000),(45,0,60000000)],pre:=[agq,(afc [.var 42,.var 44,.var 43,.lit 0],true)],res:= .bool (.lit true),os':=[uZ,ah9]}
def ahx(prog:Bool):Bool:=qOk prog true&&(qOk prog false&&((cQL prog).wf&&(fq (cQe prog) ⟨[],[lQQ prog]⟩ 40 12 12&&(cQe prog).wf)))
theorem aib:(ahx true&&ahx false)=true:=by kernel_rfl
def wwP(prog:Bool):Nat:=match prog with
 |true=>67
 |false=>68
def afr(prog:Bool):Con:={g:=wwP prog,args:=eqA prog (.sliceA 0 (.var 25) 1) (.sliceA 1 (.var 25) 1) (.int .i64 (.var 25)) (.int .i64 (.var 26)),os:=[inN,inN],bds:=[(25,0,60000000),(26,0,60000000)],pre:=[(.lt (.var 25) (.var 26),false)],res:= .tuple [],os':=[inN,inN]}
def lWW(prog:Bool):ba:={con:=afr prog,key:=5,n:=26,sl:=slQ prog,e:= .exit 0,sl':=[]}
def tWW(prog:Bool):Out:=(lWW prog).tree PR ⟨[],[]⟩ 40 aG no' 12 [] (.sub (.var 25) (.var 26))
def cWW(prog:Bool):Con:={g:=wwP prog,args:=[.sliceA 0 (.var 25) 1,.sliceA 1 (.var 25) 1],os:=[inN,inN],bds:=[(25,0,60000000)],res:= .bool (.lit true),os':=[inN,inN]}
def ahm(prog:Bool):Bool:=(tWW prog).all ((afr prog).leaf (qP (bdL (afr prog).bds) 12)) (afr prog).pre&&((afr prog).wf&&(fq (cWW prog) ⟨[],[lWW prog]⟩ 40 12 12&&(cWW prog).wf))
theorem aim:(ahm true&&ahm false)=true:=by kernel_rfl
def ahn:IE:= .rem (.add (.rem (.var 20) (.lit 40)) (.lit 40)) (.lit 40)
def ag6:IE:= .rem (.add (.rem (.var 21) (.lit 60)) (.lit 60)) (.lit 60)
def σSp(coh l:Bool):Nat->IE:=fun i=>match i with
 |0=>mL coh
 |90=>afm coh
 |3=>ahn
 |4=>ag6
 |24=> .var 24
 |25=>PG l
 |i=> .var i
def e1L(coh l:Bool):IE:=(aeu coh w3 33).rep (σSp coh l)
def n1L(coh l:Bool):IE:=(aie coh w3).rep (σSp coh l)
def e2L(coh l:Bool):IE:=(e2S coh).rep (σSp coh l)
def n2L(coh l:Bool):IE:=(n2S coh).rep (σSp coh l)
def eFL(coh l:Bool):IE:=(aeu coh w34 33).rep (σSp coh l)
def nFL(coh l:Bool):IE:=(aie coh w34).rep (σSp coh l)
def af5(coh l:Bool):IE:=dG 3 (dG 2 (e1L coh l) (.lit 0) (mkMul (n1L coh l) (.lit 27))) (mkMul (n1L coh l) (.lit 27)) (dG 2 (e2L coh l) (.lit 0) (mkMul (n2L coh l) (.lit 27)))
def spF(coh l:Bool):Dec:=[(.lt (mL coh) (.lit 0),false),(.lt (.wrap .i64 (.fn 0 (afm coh) (.lit 22) (.lit 0))) (.lit 0),false),(.lt (.lit 100000000000) (.wrap .i64 (.fn 0 (afm coh) (.lit 22) (.lit 0))),false),(.eq (nFL coh l) (mkAdd (n1L coh l) (n2L coh l)),true),(afc [eFL coh l,af5 coh l,nFL coh l,.lit 0],true)]
def kSp(coh l:Bool):Know:=match coh with
 |true=>⟨[JN,mi true l,cSp true,cBK,zN,cWW true,cWW false,cQe true,cQe false],[]⟩
 |false=>⟨[JN,mi false l,cSp false,cBQ,F8,cWW true,cWW false,cQe true,cQe false],[]⟩
def rSp(coh l:Bool):Bool:=fq (XB 9 coh l (spF coh l)) (kSp coh l) 100 12 12
end
end Go.Proofs.YtbhlmedfhilkbaaGreat
namespace Go.Proofs.YtbhlmedfhilkbaaGreat
open Go Go.Sx
set_option maxRecDepth 1000000
noncomputable section
theorem ai2:rSp true true=true:=by kernel_rfl
theorem ai6:rSp true false=true:=by kernel_rfl
theorem aja:rSp false true=true:=by kernel_rfl
theorem ajb:rSp false false=true:=by kernel_rfl
end
end Go.Proofs.YtbhlmedfhilkbaaGreat
namespace Go.Proofs.YtbhlmedfhilkbaaGreat
open Go Go.Sx
set_option maxRecDepth 1000000
noncomputable section
theorem ahi{M:Int}{ix:Nat->Nat}{g:Nat->Int}(h:0<=M): ∀n,0<=fP M ix g n
 |0=>h
 |_+1=>lH _ _ _
theorem ahu{M a b:Int}(h:0<=M):0<=stS M a b:=by
 unfold stS
 split
 ·exact lH _ _ _
 ·exact h
theorem agw(a d:Int): ∀(k i:Nat) (M:Int),0<=M->0<=poF M a d i k
 |0,_,_,h=>h
 |k+1,i,_,h=>agw a d k (i+1) _ (ahu h)
theorem ag0{G:Nat->Int->Int->Int->Int}(hG:cX G){ρ:Env}(h1:ρ.std G gh){coh:Bool}: ∀(k:Nat) (e:IE),Gp coh k e=true->0<=e.ev ρ:=by
 intro k
 induction k with
 |zero=>intro e h; unfold Gp at h; cases h
 |succ k ih=>
  intro e h
  unfold Gp at h
  split at h
  ·rename_i k0 c m y z hk
   cases hk
   split at h
   ·rename_i hc
    have a:=ih m h
    show 0<=fnI ρ c (m.ev ρ) (y.ev ρ) (z.ev ρ)
    simp only [Bool.or_eq_true,Nat.beq_eq] at hc
    rcases hc with rfl |rfl |rfl
    ·rw [cj hG h1 (by decide) (by decide)]
     show 0<=prS (m.ev ρ) (y.ev ρ) (z.ev ρ)
     unfold prS
     split
     ·exact lH _ _ _
     ·exact a
    ·rw [cj hG h1 (by decide) (by decide)]
     show 0<=syS (m.ev ρ) (y.ev ρ)
     unfold syS
     split
     ·exact ahi a _
     ·exact a
    ·rw [cj hG h1 (by decide) (by decide)]
     exact agw _ _ _ _ _ a
   ·split at h
    ·rename_i a b
     obtain ⟨q1,h⟩:=cN h
     have q1:=Nat.eq_of_beq_eq_true q1
     subst q1
     show 0<=fnI ρ 37 a b (z.ev ρ)
     rw [cj hG h1 (by decide) (by decide)]
     exact lH _ _ _
    ·cases h
  ·cases h
theorem agv{G:Nat->Int->Int->Int->Int}(hG:cX G){c:Con}{F:Fns}{o:Out}{coh:Bool}(hk:7<F.KR/\7<F.KV)(hd:o.all (c.ao F) c.pre=true)(hf:o.all (si c F coh) c.pre=true)
 (hF:F.Def G (c.rows F o)) {ρ:Env} (h1:ρ.std G gh) (h2:ρ.ok (bdL c.bds)) (h0:c.pre.holds ρ):0<=(kvE F 30).ev ρ:=by
 obtain ⟨e,s,dec',hd',a1,a2⟩:=Out.bP (ρ:=ρ) (o:=o) (dec:=c.pre) h0 (p:=fun dec e s=>c.ao F dec e s) hd
 obtain ⟨e2,s2,dec2,hd2,b1,b2⟩:=Out.bP (ρ:=ρ) (o:=o) (dec:=c.pre) h0 (p:=si c F coh) hf
 rw [a1] at b1
 cases b1
 have hF':F.Def ρ.g (c.rows F o):=by rw [h1.1]; exact hF
 obtain ⟨q,c1,c2⟩:=Con.kr (c:=c) (F:=F) (ρ:=ρ) (o:=o) (dec':=dec') hk h2 hF' a1 a2
 unfold si at b2
 rw [c1] at b2
 dsimp only at b2
 split at b2
 ·rename_i p hp
  obtain ⟨q1,q2⟩:=cN b2
  have q1:=IE.eq_eq q1
  have e:(kvE F 30).ev ρ=p.2.ev ρ:=by
   rw [<- q1]
   exact c2 p (List.mem_of_getElem? hp)
  rw [e]
  exact ag0 hG h1 40 _ q2
 ·cases b2
theorem ahc{G:Nat->Int->Int->Int->Int}(hM:Made G){ρ:Env}(h1:ρ.std G gh)(h2:ρ.ok (bdL D8))(coh:Bool):0<=(mK coh).ev ρ:=by
 obtain ⟨b1,b2⟩:=Pz h2
 cases coh
 ·have hd:=hM.lq
  unfold rLQ at hd
  have h:=(cN tS).1
  have h':=(cN Gc).2
  generalize ti=t at h h' hd
  exact agv hM.base (by decide) h h' hd h1 b1 b2
 ·have hd:=hM.lk
  unfold rLK at hd
  have h:=(cN tG).1
  have h':=(cN Gc).1
  generalize tA=t at h h' hd
  exact agv hM.base (by decide) h h' hd h1 b1 b2
def aic(E J:Int)(n:Nat):Prop:= ∀q:Nat,q<n*27->ag E (q:Nat)=ag J (q:Nat)
def ae6(G:Nat->Int->Int->Int->Int)(E J n i:Int):Env:={i:=fun v=>match v with |42=>E |44=>J |43=>n |2=>i |_=>0,b:=fun _=>false,g:=G}
theorem htT{b:BE}{y n:HT}{ρ:Env}(h:b.ev ρ=true):(HT.split b y n).rt.pick ρ=y.rt.pick ρ:=ae8 h
theorem agb{ρ:Env}: ∀l:List Nat,(∀ j∈l,(eqJ j).ev ρ=true)->(eqH l).rt.pick ρ= .again ((uS aff).ev ρ)
 | [],_=>rfl
 |j::l,h=>by
  show (HT.split (eqJ j) (eqH l) (.done [.lit 0])).rt.pick ρ=_
  rw [ae8 (h j (List.mem_cons_self ..))]
  exact agb l fun x hx=>h x (List.mem_cons_of_mem _ hx)
theorem afy{ρ:Env}: ∀l:List Nat,(∀ j∈l,(eqJ j).ev ρ=true)\/(eqH l).rt.pick ρ= .done [0]
 | []=> .inl fun _ h=>by cases h
 |j::l=>by
  cases hj:(eqJ j).ev ρ
  ·right
   show (HT.split (eqJ j) (eqH l) (.done [.lit 0])).rt.pick ρ=_
   rw [agn hj]
   rfl
  ·rcases afy (ρ:=ρ) l with h |h
   ·left
    intro x hx
    rcases List.mem_cons.1 hx with rfl |hx
    ·exact hj
    ·exact h x hx
   ·right
    show (HT.split (eqJ j) (eqH l) (.done [.lit 0])).rt.pick ρ=_
    rw [ae8 hj]
    exact h
theorem aez{ρ:Env}(hP:gg ρ.g): ∀l:List IE,(uS l).ev ρ=mI (l.map (·.ev ρ))
 | []=>rfl
 |e::l=>by
  show fnI ρ KP (e.ev ρ) ((uS l).ev ρ) 0=_
  rw [aez hP l,bY (by decide),hP]
  rfl
section
variable{G:Nat->Int->Int->Int->Int}(hP:gg G)(hQ:FQe.Def G evH.rt)
include hP hQ
theorem af9(E J n i:Int){r:RV}(h:evH.rt.pick (ae6 G E J n i)=r):match r with
 | .bad=>True
 | .again X=>G 145 (mI [E,J,n,i]) 0 0=G 145 X 0 0
 | .done l=>G 145 (mI [E,J,n,i]) 0 0=l.getD 0 0:=by
 have hx:FQe.x.ev (ae6 G E J n i)=mI [E,J,n,i]:=by
  unfold Fns.x
  exact jl (ρ:=ae6 G E J n i) hP FQe.vars
 have hd:=hQ (ae6 G E J n i) rfl
 rw [h,hx] at hd
 cases r with
 |bad=>trivial
 |again X=>exact hd.2 0
 |done l=>exact hd.2 0
theorem ain{E J:Int}{n:Nat}(hs:aic E J n): ∀m i:Nat,i+m=n->G 145 (mI [E,J,(n:Int),(i:Int)]) 0 0=1:=by
 intro m
 induction m with
 |zero=>
  intro i hi
  have a1:inQ.ev (ae6 G E J n i)=false:=decide_eq_false (show ¬((i:Nat):Int)<(n:Nat) by omega)
  refine af9 hP hQ E J n i (r:= .done [1]) ?_
  unfold evH
  rw [agn a1]
  rfl
 |succ m ih=>
  intro i hi
  have ih:=ih (i+1) (by omega)
  have a1:inQ.ev (ae6 G E J n i)=true:=decide_eq_true (show ((i:Nat):Int)<(n:Nat) by omega)
  have d: ∀j∈List.range 27,(eqJ j).ev (ae6 G E J n i)=true:=fun j hj=>by
   have hj:=List.mem_range.1 hj
   have epQ:(agz j).ev (ae6 G E J n i)=((i*27+j:Nat):Int):=by
    have:(agz j).ev (ae6 G E J n i)=(i:Int)*27+((j:Nat):Int):=by
     cases j with
     |zero=>show (i:Int)*27=_; omega
     |succ j=>rfl
    rw [this]
    omega
   refine decide_eq_true (show (ah7 j).wrap (ag E ((agz j).ev (ae6 G E J n i)))=(ah7 j).wrap (ag J ((agz j).ev (ae6 G E J n i))) from ?_)
   rw [epQ,hs _ (by omega)]
  have this:G 145 (mI [E,J,(n:Int),(i:Int)]) 0 0=G 145 ((uS aff).ev (ae6 G E J n i)) 0 0:=af9 hP hQ E J n i (r:= .again ((uS aff).ev (ae6 G E J n i))) (by
   unfold evH
   rw [ae8 a1]
   exact agb _ d)
  rw [aez (ρ:=ae6 G E J n i) hP] at this
  have e:G 145 (mI [E,J,(n:Int),(i:Int)]) 0 0=G 145 (mI [E,J,(n:Int),(i:Int)+1]) 0 0:=this
  rw [e,show (i:Int)+1=((i+1:Nat):Int) by omega]
  exact ih
theorem aif(prog:Bool):(lQQ prog).con.wf=true/\(lQQ prog).Ok PR G gh:=by
 obtain ⟨t1,t0,wf,_,_⟩:qOk prog true=true/\qOk prog false=true/\(cQL prog).wf=true/\fq (cQe prog) ⟨[],[lQQ prog]⟩ 40 12 12=true/\(cQe prog).wf=true:=by
  have h:=aib
  simp only [ahx,Bool.and_eq_true] at h
  cases prog
  ·exact h.2
  ·exact h.1
 refine ⟨wf,ba.OX (L:=40) (pol:=aG) (pure:=no') (d:=12) (μ:= .sub (.var 43) (.var 2)) mixed wf (by cases prog<;>rfl) fun ρ h1 h2 h3=> ?_⟩
 have fin: ∀b,qOk prog b=true->(ah2 b).holds ρ-> ∃(K:Know) (facts:Dec),K.Ok PR G gh/\facts.holds ρ/\ ∃e s at' q,((lQQ prog).tree PR K 40 aG no' 12 facts (.sub (.var 43) (.var 2))).pick ρ=some (e,s)/\(lQQ prog).con.ends at' s=some q/\q.hold ρ:=fun b hb hf=>by
  obtain ⟨e,s,dec',hd',p1,p2⟩:=Out.bP (bJ hf h3) hb
  unfold Con.leaf at p2
  split at p2
  ·rename_i q hq
   exact ⟨⟨[],[]⟩,ah2 b,bc,hf,e,s,_,q,p1,hq,f7 (fun a b hab=>uR h2 hd' hab) p2⟩
  ·cases p2
 have hPρ:gg ρ.g:=by rw [h1.1]; exact hP
 have flQ: ∀l:List IE,(afc l).ev ρ=decide (G 145 (mI (l.map (·.ev ρ))) 0 0=1):=fun l=>by
  show decide (fnI ρ 145 ((uS l).ev ρ) 0 0=1)=_
  rw [aez hPρ,bY (by decide),h1.1]
 have hpre:(cQL prog).pre.holds ρ:=h3
 have e45:ρ.i 43=ρ.i 45:=of_decide_eq_true (hpre agq (by simp [cQL]))
 have hfl:(afc [.var 42,.var 44,.var 43,.var 2]).ev ρ=true:=hpre (afc [.var 42,.var 44,.var 43,.var 2],true) (by simp [cQL])
 rw [flQ] at hfl
 have hfl:G 145 (mI [ρ.i 42,ρ.i 44,ρ.i 43,ρ.i 2]) 0 0=1:=of_decide_eq_true hfl
 have pk:evH.rt.pick (ae6 G (ρ.i 42) (ρ.i 44) (ρ.i 43) (ρ.i 2))=evH.rt.pick ρ:=by
  refine RT.AK (V:=bR FQe.vars) (K:=144) (fun i hi=> ?_) (fun c _=>by show G c=ρ.g c; rw [h1.1]) _ agk
  have:i=42\/i=44\/i=43\/i=2:=by
   unfold bR at hi
   simpa [FQe] using hi
  rcases this with rfl |rfl |rfl |rfl<;>rfl
 by_cases i:ρ.i 2<ρ.i 43
 case neg=>exact fin false t0 (ak (decide_eq_false i) aw)
 have ei:inQ.ev ρ=true:=decide_eq_true i
 have epQ:evH.rt.pick ρ=(eqH (List.range 27)).rt.pick ρ:=by
  unfold evH
  rw [ae8 ei]
 rcases afy (ρ:=ρ) (List.range 27) with d |d
 ·have this:G 145 (mI [ρ.i 42,ρ.i 44,ρ.i 43,ρ.i 2]) 0 0=G 145 ((uS aff).ev ρ) 0 0:=af9 hP hQ (ρ.i 42) (ρ.i 44) (ρ.i 43) (ρ.i 2) (r:= .again ((uS aff).ev ρ)) (by rw [pk,epQ]; exact agb _ d)
  rw [aez hPρ,hfl] at this
  have hb:(afc aff).ev ρ=true:=by rw [flQ]; exact decide_eq_true this.symm
  refine fin true t1 (ak ei (ak (decide_eq_true (show ρ.i 2<ρ.i 45 by omega)) (ak (decide_eq_false (show ¬ρ.i 43<ρ.i 2+1 by omega)) (ak hb fun p hp=> ?_))))
  obtain ⟨j,hj,rfl⟩:=List.mem_map.1 hp
  exact d j hj
 ·have:G 145 (mI [ρ.i 42,ρ.i 44,ρ.i 43,ρ.i 2]) 0 0=0:=af9 hP hQ (ρ.i 42) (ρ.i 44) (ρ.i 43) (ρ.i 2) (r:= .done [0]) (by rw [pk,epQ]; exact d)
  rw [hfl] at this
  cases this
theorem ag8(prog:Bool):(cQe prog).Ok PR G gh:=by
 have r:fq (cQe prog) ⟨[],[lQQ prog]⟩ 40 12 12=true:=by
  have h:=aib
  simp only [ahx,Bool.and_eq_true] at h
  cases prog
  ·exact h.2.2.2.2.1
  ·exact h.1.2.2.2.1
 exact bA (ia rfl dj (lpC (aif hP hQ prog).1 (aif hP hQ prog).2 lpN)) r
omit hP hQ in
theorem ahh(prog:Bool):(cWW prog).Ok PR G gh:=by
 obtain ⟨t,w,r,_⟩:(tWW prog).all ((afr prog).leaf (qP (bdL (afr prog).bds) 12)) (afr prog).pre=true/\(afr prog).wf=true/\fq (cWW prog) ⟨[],[lWW prog]⟩ 40 12 12=true/\(cWW prog).wf=true:=by
  have h:=aim
  simp only [ahm,Bool.and_eq_true] at h
  cases prog
  ·exact h.2
  ·exact h.1
 have hL:(afr prog).Leaves G gh (tWW prog):=Con.vG (c:=afr prog) [] (fun _ _ _ _=>aw) _ (fun ρ h1 h2 h3 dec a b hd hab=>uR h2 hd hab) t
 unfold tWW at hL
 have l:(lWW prog).Ok PR G gh:=ba.f6 (c:=lWW prog) mixed (K:=⟨[],[]⟩) bc w (by cases prog<;>rfl) (L:=40) (pol:=aG) (pure:=no') (d:=12) (facts:=[]) (fun _ _ _ _=>aw) hL
 exact bA (ia rfl dj (lpC w l lpN)) r
end
def ajc(G:Nat->Int->Int->Int->Int):Prop:=agt G/\FQe.Def G evH.rt
theorem ajd: ∃G,ajc G:=by
 obtain ⟨G,hG⟩:=ac1
 obtain ⟨G',_,b,p,d⟩:=uA [(FQe,evH.rt,144)] 144 G hG.rH (by show rn 144 [(FQe,144)]=true; decide) (fun x hx=>by rw [List.mem_singleton.1 hx]; exact agk)
 exact ⟨G',hG.mono b,d (FQe,evH.rt,144) (by simp)⟩
theorem ais:([true,false].all fun coh=>[true,false].all fun l=>(kSp coh l).cons.all Con.wf)=true:=by kernel_rfl
theorem aht: ∀coh l,rSp coh l=true
 |true,true=>ai2
 |true,false=>ai6
 |false,true=>aja
 |false,false=>ajb
section
variable{G:Nat->Int->Int->Int->Int}(hL:ajc G)
include hL
theorem aih(coh l:Bool):(kSp coh l).Ok PR G gh:=by
 have w:=List.all_eq_true.1 (List.all_eq_true.1 ais coh (by cases coh<;>simp)) l (by cases l<;>simp)
 obtain ⟨hG,hQ⟩:=hL
 have hB:=hG.made.base
 have rest:=aJ (ahh (G:=G) true) (aJ (ahh false) (aJ (ag8 hG.rH hQ true) (aJ (ag8 hG.rH hQ false) dj)))
 cases coh
 ·exact bB w (aJ ZL (aJ (Ec hG false l).2 (aJ (ag4 hG.toRunG false).2 (aJ (W5 hG.toRunG).2 (aJ (Sg hB).2 rest)))))
 ·exact bB w (aJ ZL (aJ (Ec hG true l).2 (aJ (ag4 hG.toRunG true).2 (aJ (XH hG.toRunG).2 (aJ (PC hB).2 rest)))))
theorem ait:(Ti 9).Ok PR G gh:=ac2 hL.1 fun coh l ρ h1 h2 h3=>by
 have hG:=hL.1.toRunG
 have hP:=hL.1.rH
 have h3': ∀p∈is2 coh::many l::(hd6 coh++(hdL coh++[])),p.1.ev ρ=p.2:=h3
 have hl:(many l).1.ev ρ=(many l).2:=h3' _ (List.mem_cons_of_mem _ (List.mem_cons_self ..))
 have m40:0<=ahn.ev ρ/\ahn.ev ρ<40:=Yu (ρ.i 20) (m:=40) 40 rfl (by decide)
 have m60:0<=ag6.ev ρ/\ag6.ev ρ<60:=Yu (ρ.i 21) (m:=60) 60 rfl (by decide)
 have hT:=ah1 h2 hl
 have hpos:0<=(mL coh).ev ρ:=by
  rw [aaj hL.1 h1 coh]
  exact ahc hL.1.made h1 h2 coh
 have hst:=ajg hL.1 h1 coh
 have c1:(BE.lt (mL coh) (.lit 0)).ev ρ=false:=decide_eq_false (show ¬(mL coh).ev ρ<0 by omega)
 have c2:(BE.lt (.wrap .i64 (.fn 0 (afm coh) (.lit 22) (.lit 0))) (.lit 0)).ev ρ=false:=decide_eq_false (show ¬fN ((afm coh).ev ρ)<0 by omega)
 have c3:(BE.lt (.lit 100000000000) (.wrap .i64 (.fn 0 (afm coh) (.lit 22) (.lit 0)))).ev ρ=false:=decide_eq_false (show ¬(100000000000:Int)<fN ((afm coh).ev ρ) by omega)
 have h2':(ρ.rep (σSp coh l)).ok (bdL spB):=Dg fun i lo hi h=>by
  simp only [spB,List.mem_cons,Prod.mk.injEq,List.not_mem_nil,or_false] at h
  rcases h with ⟨rfl,rfl,rfl⟩ | ⟨rfl,rfl,rfl⟩ | ⟨rfl,rfl,rfl⟩
  ·show 0<=ahn.ev ρ/\ahn.ev ρ<=100; omega
  ·show 0<=ag6.ev ρ/\ag6.ev ρ<=100; omega
  ·exact hT
 have h3s:spP.holds (ρ.rep (σSp coh l)):=ak c1 (ak c2 (ak c3 aw))
 obtain ⟨a,k,e1,a9Q,e2,k9,eFQ,rel,pre,_⟩:=agx hG (ρ:=ρ.rep (σSp coh l)) h1 h2' h3s coh
 have h1':(ρ.rep (σSp coh l)).std G gh:=h1
 -- the lists, in the law
 have v1:(e1L coh l).ev ρ=G (FB coh).KV ((xSQ w3).ev (ρ.rep (σSp coh l))) 0 33:=by
  unfold e1L
  rw [IE.a9]
  exact aew h1' coh (xSQ w3) 33
 have v2:(e2L coh l).ev ρ=G (FB coh).KV ((x2S coh).ev (ρ.rep (σSp coh l))) 0 33:=by
  unfold e2L
  rw [IE.a9]
  exact aew h1' coh (x2S coh) 33
 have vF:(eFL coh l).ev ρ=G (FB coh).KV ((xSQ w34).ev (ρ.rep (σSp coh l))) 0 33:=by
  unfold eFL
  rw [IE.a9]
  exact aew h1' coh (xSQ w34) 33
 have n1:(n1L coh l).ev ρ=(a:Int):=by
  unfold n1L
  rw [IE.a9]
  show ((dX (FB coh).KR (xSQ w3) .u32 29).ev (ρ.rep (σSp coh l))).tmod 1002001=_
  rw [aei h1' coh,e1,pV (by omega) (by omega)]
 have n2:(n2L coh l).ev ρ=(k:Int):=by
  unfold n2L
  rw [IE.a9]
  show ((dX (FB coh).KR (x2S coh) .u32 29).ev (ρ.rep (σSp coh l))).tmod 1002001=_
  rw [aei h1' coh,e2,pV (by omega) (by omega)]
 have nFQ:(nFL coh l).ev ρ=((a+k:Nat):Int):=by
  unfold nFL
  rw [IE.a9]
  show ((dX (FB coh).KR (xSQ w34) .u32 29).ev (ρ.rep (σSp coh l))).tmod 1002001=_
  rw [aei h1' coh,eFQ,pV (by omega) (by omega)]
 have c4:(BE.eq (nFL coh l) (mkAdd (n1L coh l) (n2L coh l))).ev ρ=true:=decide_eq_true (show (nFL coh l).ev ρ=(mkAdd (n1L coh l) (n2L coh l)).ev ρ by rw [bE,n1,n2,nFQ]; omega)
 have ej:(af5 coh l).ev ρ=lS (aY ((e1L coh l).ev ρ) 0 ((a*27:Nat):Int)) ((a*27:Nat):Int) (aY ((e2L coh l).ev ρ) 0 ((k*27:Nat):Int)):=by
  unfold af5
  rw [cz,cz,cz,fH,fH,n1,n2]
  show lS (aY ((e1L coh l).ev ρ) 0 ((a:Int)*27)) ((a:Int)*27) (aY ((e2L coh l).ev ρ) 0 ((k:Int)*27))=_
  rw [show (a:Int)*27=((a*27:Nat):Int) by omega,show (k:Int)*27=((k*27:Nat):Int) by omega]
 have hs:aic ((eFL coh l).ev ρ) ((af5 coh l).ev ρ) (a+k):=by
  intro q hq
  rw [ej,vF]
  rcases Nat.lt_or_ge q (a*27) with h |h
  ·rw [mf _ _ _ _ h,v1,pre q h]
   have:=ch (G (FB coh).KV ((xSQ w3).ev (ρ.rep (σSp coh l))) 0 33) 0 (a*27) q h
   rw [Nat.zero_add] at this
   exact this.symm
  ·obtain ⟨r,rfl⟩: ∃r,q=a*27+r:=⟨q-a*27,by omega⟩
   have hr:r<k*27:=by omega
   have hi:=qy (aY ((e1L coh l).ev ρ) 0 ((a*27:Nat):Int)) (aY ((e2L coh l).ev ρ) 0 ((k*27:Nat):Int)) (a*27) (a*27+r) (Am ((e1L coh l).ev ρ) 0 (a*27)) (Nat.le_add_right _ _)
   rw [rel r hr,hi,Nat.add_sub_cancel_left,v2]
   have:=ch (G (FB coh).KV ((x2S coh).ev (ρ.rep (σSp coh l))) 0 33) 0 (k*27) r hr
   rw [Nat.zero_add] at this
   exact this.symm
 have hPρ:gg ρ.g:=by rw [h1.1]; exact hP
 have c5:(afc [eFL coh l,af5 coh l,nFL coh l,.lit 0]).ev ρ=true:=by
  show decide (fnI ρ 145 ((uS [eFL coh l,af5 coh l,nFL coh l,.lit 0]).ev ρ) 0 0=1)=true
  rw [aez hPρ,bY (by decide),h1.1]
  have:=ain hP hL.2 hs (a+k) 0 (by omega)
  rw [<- nFQ] at this
  exact decide_eq_true this
 refine bA (aih hL coh l) (aht coh l) ρ h1 h2 (show ∀p∈is2 coh::many l::(hd6 coh++(hdL coh++spF coh l)),p.1.ev ρ=p.2 from fun p hp=> ?_)
 have hf:(spF coh l).holds ρ:=ak c1 (ak c2 (ak c3 (ak c4 (ak c5 aw))))
 simp only [List.append_nil,List.mem_cons,List.mem_append] at hp h3'
 rcases hp with rfl |rfl |hp |hp |hp
 ·exact h3' _ (.inl rfl)
 ·exact h3' _ (.inr (.inl rfl))
 ·exact h3' _ (.inr (.inr (.inl hp)))
 ·exact h3' _ (.inr (.inr (.inr hp)))
 ·exact hf p hp
end
end
end Go.Proofs.YtbhlmedfhilkbaaGreat

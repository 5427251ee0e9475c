/- BoardOutputs: events and outputs fit; the law holds. No condition. -/
import Derived.Test.YtbhlmedfhilkbaaGreatGx2
import Derived.Test.YtbhlmedfhilkbaaGreatBi3
set_option linter.unusedSimpArgs false
set_option linter.unusedVariables false
set_option linter.unusedSectionVars false
namespace Go.Proofs.YtbhlmedfhilkbaaGreat
open Go Go.Sx
set_option maxRecDepth 1000000
noncomputable section
/-! events and outputs, by numbers -/
def sysB(E:Int)(i:Nat):Bool:=decide (IntKind.i64.wrap (ag E ((i*27:Nat):Int))=4)&&decide (IntKind.u32.wrap (ag E ((i*27+1:Nat):Int))=1)
def vlN(E:Int)(i:Nat):Int:=IntKind.u32.wrap (ag E ((i*27+2:Nat):Int))
def cntN(E:Int):Nat->Nat
 |0=>0
 |n+1=>cntN E n+(match sysB E n with |true=>1 |false=>0)
def FitN(E O:Int)(i:Nat):Prop:=(sysB E i=true->IntKind.u32.wrap (ag O ((cntN E i:Nat):Int))=vlN E i)/\(sysB E i=false->vlN E i=0)
def GoodN(E O:Int)(n:Nat):Prop:= ∀i,i<n->FitN E O i
theorem cnt_succ{E:Int}{n:Nat}(h:sysB E n=true):cntN E (n+1)=cntN E n+1:=by
 show cntN E n+_=_
 rw [h]
theorem cnt_same{E:Int}{n:Nat}(h:sysB E n=false):cntN E (n+1)=cntN E n:=by
 show cntN E n+_=_
 rw [h]
 rfl
theorem cnt_step(E:Int)(n:Nat):cntN E n<=cntN E (n+1):=Nat.le_add_right _ _
theorem cnt_mono{E:Int}{i n:Nat}(h:i<=n):cntN E i<=cntN E n:=by
 induction n with
 |zero=>rw [Nat.le_zero.1 h]; exact Nat.le_refl _
 |succ n ih=>
  rcases Nat.lt_or_ge i (n+1) with h1 |h1
  ·exact Nat.le_trans (ih (by omega)) (cnt_step E n)
  ·rw [show i=n+1 by omega]; exact Nat.le_refl _
theorem cnt_lt{E:Int}{i n:Nat}(h:i<n)(hs:sysB E i=true):cntN E i<cntN E n:=by
 have:=cnt_mono (E:=E) (i:=i+1) (n:=n) h
 rw [cnt_succ hs] at this
 omega
theorem sys_congr{E E':Int}{n:Nat}(h: ∀m,m<n*27->ag E' (m:Nat)=ag E (m:Nat)){i:Nat}(hi:i<n):sysB E' i=sysB E i/\vlN E' i=vlN E i:=by
 unfold sysB vlN
 rw [h (i*27) (by omega),h (i*27+1) (by omega),h (i*27+2) (by omega)]
 exact ⟨rfl,rfl⟩
theorem cnt_congr{E E':Int}{n:Nat}(h: ∀m,m<n*27->ag E' (m:Nat)=ag E (m:Nat)): ∀i,i<=n->cntN E' i=cntN E i:=by
 intro i
 induction i with
 |zero=>intro _; rfl
 |succ i ih=>
  intro hi
  show cntN E' i+_=cntN E i+_
  rw [ih (by omega),(sys_congr h (i:=i) (by omega)).1]
theorem good_congr{E E' O O':Int}{n:Nat}(h: ∀m,m<n*27->ag E' (m:Nat)=ag E (m:Nat))(ho: ∀j,j<cntN E n->ag O' (j:Nat)=ag O (j:Nat))(hg:GoodN E O n):GoodN E' O' n:=by
 intro i hi
 obtain ⟨e1,e2⟩:=sys_congr h hi
 obtain ⟨g1,g2⟩:=hg i hi
 refine ⟨fun hs=> ?_,fun hs=> ?_⟩
 ·rw [e1] at hs
  rw [cnt_congr h i (by omega),ho _ (cnt_lt hi hs),e2]
  exact g1 hs
 ·rw [e1] at hs
  rw [e2]
  exact g2 hs
/-- A further event. -/
theorem good_next{E O:Int}{n:Nat}(hg:GoodN E O n)(hf:FitN E O n):GoodN E O (n+1):=fun i hi=>by
 rcases Nat.lt_or_ge i n with h |h
 ·exact hg i h
 ·rw [show i=n by omega]; exact hf
/-! the function of the law's loop -/
theorem pick_yes{b:BE}{y n:HT}{ρ:Env}(h:b.ev ρ=true):(HT.split b y n).rt.pick ρ=y.rt.pick ρ:=by
 show aS (b.ev ρ) _ _=_
 rw [h]
 rfl
theorem pick_no{b:BE}{y n:HT}{ρ:Env}(h:b.ev ρ=false):(HT.split b y n).rt.pick ρ=n.rt.pick ρ:=by
 show aS (b.ev ρ) _ _=_
 rw [h]
 rfl
theorem packX_ev{ρ:Env}(hP:gg ρ.g): ∀l:List IE,(uS l).ev ρ=mI (l.map (·.ev ρ))
 | []=>rfl
 |e::l=>by
  show fnI ρ KP (e.ev ρ) ((uS l).ev ρ) 0=_
  rw [packX_ev hP l,bY (by decide),hP]
  rfl
def flN(G:Nat->Int->Int->Int->Int)(E n O o k i:Int):Int:=G 145 (mI [E,n,O,o,k,i]) 0 0
def envO(G:Nat->Int->Int->Int->Int)(E n O o k i:Int):Env:={i:=fun v=>match v with |42=>E |43=>n |40=>O |41=>o |4=>k |2=>i |_=>0,b:=fun _=>false,g:=G}
section
variable{G:Nat->Int->Int->Int->Int}(hP:gg G)(hO:FOut.Def G outH.rt)
include hP hO
theorem fl_pick(E n O o k i:Int){r:RV}(h:outH.rt.pick (envO G E n O o k i)=r):match r with
 | .bad=>True
 | .again X=>flN G E n O o k i=G 145 X 0 0
 | .done l=>flN G E n O o k i=l.getD 0 0:=by
 have hx:FOut.x.ev (envO G E n O o k i)=mI [E,n,O,o,k,i]:=by
  unfold Fns.x
  exact jl (ρ:=envO G E n O o k i) hP FOut.vars
 have hd:=hO (envO G E n O o k i) rfl
 rw [h,hx] at hd
 cases r with
 |bad=>trivial
 |again X=>exact hd.2 0
 |done l=>exact hd.2 0
theorem fl_good{E O:Int}{n:Nat}(hg:GoodN E O n): ∀m i:Nat,i+m=n->flN G E (n:Nat) O (cntN E n:Nat) (cntN E i:Nat) (i:Nat)=1:=by
 intro m
 induction m with
 |zero=>
  intro i hi
  have hi:i=n:=by omega
  subst hi
  have a1:inEv.ev (envO G E (i:Nat) O (cntN E i:Nat) (cntN E i:Nat) (i:Nat))=false:=decide_eq_false (show ¬((i:Nat):Int)<(i:Nat) by omega)
  have a2:endO.ev (envO G E (i:Nat) O (cntN E i:Nat) (cntN E i:Nat) (i:Nat))=true:=decide_eq_true rfl
  refine fl_pick hP hO E (i:Nat) O (cntN E i:Nat) (cntN E i:Nat) (i:Nat) (r:= .done [1]) ?_
  unfold outH
  rw [pick_no a1,pick_yes a2]
  rfl
 |succ m ih=>
  intro i hi
  have hin:i<n:=by omega
  have ih:=ih (i+1) (by omega)
  obtain ⟨g1,g2⟩:=hg i hin
  have d0: ∀k:IntKind,(evD k 0).ev (envO G E (n:Nat) O (cntN E n:Nat) (cntN E i:Nat) (i:Nat))=k.wrap (ag E ((i*27:Nat):Int)):=fun k=>by
   show k.wrap (ag E ((i:Int)*27))=_
   rw [show (i:Int)*27=((i*27:Nat):Int) by omega]
  have d1: ∀k:IntKind,(evD k 1).ev (envO G E (n:Nat) O (cntN E n:Nat) (cntN E i:Nat) (i:Nat))=k.wrap (ag E ((i*27+1:Nat):Int)):=fun k=>by
   show k.wrap (ag E ((i:Int)*27+1))=_
   rw [show (i:Int)*27+1=((i*27+1:Nat):Int) by omega]
  have d2: ∀k:IntKind,(evD k 2).ev (envO G E (n:Nat) O (cntN E n:Nat) (cntN E i:Nat) (i:Nat))=k.wrap (ag E ((i*27+2:Nat):Int)):=fun k=>by
   show k.wrap (ag E ((i:Int)*27+2))=_
   rw [show (i:Int)*27+2=((i*27+2:Nat):Int) by omega]
  have e0:outH.rt.pick (envO G E (n:Nat) O (cntN E n:Nat) (cntN E i:Nat) (i:Nat))=(HT.split tk4 (.split ti1 sysO elseO) elseO).rt.pick (envO G E (n:Nat) O (cntN E n:Nat) (cntN E i:Nat) (i:Nat)):=by
   have a1:inEv.ev (envO G E (n:Nat) O (cntN E n:Nat) (cntN E i:Nat) (i:Nat))=true:=decide_eq_true (show ((i:Nat):Int)<(n:Nat) by omega)
   unfold outH
   rw [pick_yes a1]
  cases hs:sysB E i with
  |true=>
   obtain ⟨s1,s2⟩:=Bool.and_eq_true_iff.1 hs
   have s1:=of_decide_eq_true s1
   have s2:=of_decide_eq_true s2
   have hlt:=cnt_lt hin hs
   have a1:tk4.ev (envO G E (n:Nat) O (cntN E n:Nat) (cntN E i:Nat) (i:Nat))=true:=decide_eq_true (by rw [d0]; exact s1)
   have a2:ti1.ev (envO G E (n:Nat) O (cntN E n:Nat) (cntN E i:Nat) (i:Nat))=true:=decide_eq_true (by rw [d1]; exact s2)
   have a3:inOut.ev (envO G E (n:Nat) O (cntN E n:Nat) (cntN E i:Nat) (i:Nat))=true:=decide_eq_true (show ((cntN E i:Nat):Int)<(cntN E n:Nat) by omega)
   have a4:outB.ev (envO G E (n:Nat) O (cntN E n:Nat) (cntN E i:Nat) (i:Nat))=true:=decide_eq_true (by rw [d2]; exact g1 hs)
   have this:flN G E (n:Nat) O (cntN E n:Nat) (cntN E i:Nat) (i:Nat)=G 145 ((uS nextS).ev (envO G E (n:Nat) O (cntN E n:Nat) (cntN E i:Nat) (i:Nat))) 0 0:=fl_pick hP hO E (n:Nat) O (cntN E n:Nat) (cntN E i:Nat) (i:Nat) (r:= .again ((uS nextS).ev (envO G E (n:Nat) O (cntN E n:Nat) (cntN E i:Nat) (i:Nat)))) (by
    rw [e0,pick_yes a1,pick_yes a2]
    unfold sysO
    rw [pick_yes a3,pick_yes a4]
    rfl)
   rw [packX_ev (ρ:=envO G E (n:Nat) O (cntN E n:Nat) (cntN E i:Nat) (i:Nat)) hP] at this
   rw [cnt_succ hs] at ih
   have e:flN G E (n:Nat) O (cntN E n:Nat) (cntN E i:Nat) (i:Nat)=flN G E (n:Nat) O (cntN E n:Nat) ((cntN E i:Nat)+1) ((i:Nat)+1):=this
   rw [e,show ((cntN E i:Nat):Int)+1=((cntN E i+1:Nat):Int) by omega,show ((i:Nat):Int)+1=((i+1:Nat):Int) by omega]
   exact ih
  |false=>
   have hv:val0.ev (envO G E (n:Nat) O (cntN E n:Nat) (cntN E i:Nat) (i:Nat))=true:=decide_eq_true (by rw [d2]; exact g2 hs)
   have this:flN G E (n:Nat) O (cntN E n:Nat) (cntN E i:Nat) (i:Nat)=G 145 ((uS nextE).ev (envO G E (n:Nat) O (cntN E n:Nat) (cntN E i:Nat) (i:Nat))) 0 0:=fl_pick hP hO E (n:Nat) O (cntN E n:Nat) (cntN E i:Nat) (i:Nat) (r:= .again ((uS nextE).ev (envO G E (n:Nat) O (cntN E n:Nat) (cntN E i:Nat) (i:Nat)))) (by
    rw [e0]
    have el:elseO.rt.pick (envO G E (n:Nat) O (cntN E n:Nat) (cntN E i:Nat) (i:Nat))= .again ((uS nextE).ev (envO G E (n:Nat) O (cntN E n:Nat) (cntN E i:Nat) (i:Nat))):=by
     unfold elseO
     rw [pick_yes hv]
     rfl
    by_cases s1:IntKind.i64.wrap (ag E ((i*27:Nat):Int))=4
    ·have a1:tk4.ev (envO G E (n:Nat) O (cntN E n:Nat) (cntN E i:Nat) (i:Nat))=true:=decide_eq_true (by rw [d0]; exact s1)
     have s2: ¬IntKind.u32.wrap (ag E ((i*27+1:Nat):Int))=1:=fun h=>by
      unfold sysB at hs
      rw [decide_eq_true s1,decide_eq_true h] at hs
      cases hs
     have a2:ti1.ev (envO G E (n:Nat) O (cntN E n:Nat) (cntN E i:Nat) (i:Nat))=false:=decide_eq_false (by rw [d1]; exact s2)
     rw [pick_yes a1,pick_no a2,el]
    ·have a1:tk4.ev (envO G E (n:Nat) O (cntN E n:Nat) (cntN E i:Nat) (i:Nat))=false:=decide_eq_false (by rw [d0]; exact s1)
     rw [pick_no a1,el])
   rw [packX_ev (ρ:=envO G E (n:Nat) O (cntN E n:Nat) (cntN E i:Nat) (i:Nat)) hP] at this
   rw [cnt_same hs] at ih
   have e:flN G E (n:Nat) O (cntN E n:Nat) (cntN E i:Nat) (i:Nat)=flN G E (n:Nat) O (cntN E n:Nat) (cntN E i:Nat) ((i:Nat)+1):=this
   rw [e,show ((i:Nat):Int)+1=((i+1:Nat):Int) by omega]
   exact ih
end
/-! the loops -/
section
variable{G:Nat->Int->Int->Int->Int}
theorem cases_leaf{c:Con}{t:Out}{f:Dec}(h:t.all (c.leaf (qP (bdL c.bds) 12)) (f++c.pre)=true){ρ:Env}(h2:ρ.ok (bdL c.bds))(h3:c.pre.holds ρ)(hf:f.holds ρ): ∃e s at' q,t.pick ρ=some (e,s)/\c.ends at' s=some q/\q.hold ρ:=by
 obtain ⟨e,s,dec',hd',p1,p2⟩:=Out.bP (bJ hf h3) h
 unfold Con.leaf at p2
 split at p2
 ·rename_i q hq
  exact ⟨e,s,_,q,p1,hq,f7 (fun a b hab=>uR h2 hd' hab) p2⟩
 ·cases p2
theorem lOu_ok(hP:gg G)(hO:FOut.Def G outH.rt):lOu.con.wf=true/\lOu.Ok PR G gh:=by
 have h:=ou_run
 simp only [Bool.and_eq_true] at h
 obtain ⟨t0,t1,t2,t3,wf⟩:=h
 refine ⟨wf,ba.OX (L:=40) (pol:=aG) (pure:=no') (d:=12) (μ:=μOu) mixed wf rfl fun ρ h1 h2 h3=> ?_⟩
 have fin: ∀n,ouOk n=true->(facEv n).holds ρ-> ∃(K:Know) (facts:Dec),K.Ok PR G gh/\facts.holds ρ/\ ∃e s at' q,(lOu.tree PR K 40 aG no' 12 facts μOu).pick ρ=some (e,s)/\lOu.con.ends at' s=some q/\q.hold ρ:=fun n hn hf=>
  ⟨⟨[],[]⟩,facEv n,bc,hf,cases_leaf hn h2 h3 hf⟩
 have b43:0<=ρ.i 43/\ρ.i 43<=60000000:=h2 43 _ _ rfl
 have b2:0<=ρ.i 2/\ρ.i 2<=60000000:=h2 2 _ _ rfl
 have b4:0<=ρ.i 4/\ρ.i 4<=60000000:=h2 4 _ _ rfl
 have hfl:flag0.ev ρ=true:=h3 (flag0,true) (by simp [lOu,cOuL])
 have hPρ:gg ρ.g:=by rw [h1.1]; exact hP
 have flAt: ∀l:List IE,(flagAt l).ev ρ=decide (G 145 (mI (l.map (·.ev ρ))) 0 0=1):=fun l=>by
  show decide (fnI ρ 145 ((uS l).ev ρ) 0 0=1)=_
  rw [packX_ev hPρ,bY (by decide),h1.1]
 have hfl:flN G (ρ.i 42) (ρ.i 43) (ρ.i 40) (ρ.i 41) (ρ.i 4) (ρ.i 2)=1:=by
  unfold flag0 at hfl
  rw [flAt] at hfl
  exact of_decide_eq_true hfl
 have pk:outH.rt.pick (envO G (ρ.i 42) (ρ.i 43) (ρ.i 40) (ρ.i 41) (ρ.i 4) (ρ.i 2))=outH.rt.pick {ρ with g:=G}:=by
  refine RT.AK (V:=bR FOut.vars) (K:=144) (fun i hi=> ?_) (fun _ _=>rfl) _ out_only
  have:i=42\/i=43\/i=40\/i=41\/i=4\/i=2:=by
   unfold bR at hi
   simpa [FOut] using hi
  rcases this with rfl |rfl |rfl |rfl |rfl |rfl<;>rfl
 have hρ:({ρ with g:=G}:Env)=ρ:=by rw [<- h1.1]
 rw [hρ] at pk
 have key:=fun r (h:outH.rt.pick ρ=r)=>fl_pick hP hO (ρ.i 42) (ρ.i 43) (ρ.i 40) (ρ.i 41) (ρ.i 4) (ρ.i 2) (r:=r) (pk.trans h)
 have zero: ∀ {P:Prop},outH.rt.pick ρ= .done [0]->P:=fun h=>by
  have:flN G (ρ.i 42) (ρ.i 43) (ρ.i 40) (ρ.i 41) (ρ.i 4) (ρ.i 2)=0:=key _ h
  rw [hfl] at this
  cases this
 unfold outH at key zero
 by_cases i:ρ.i 2<ρ.i 43
 case neg=>
  have ei:inEv.ev ρ=false:=decide_eq_false i
  by_cases e:ρ.i 4=ρ.i 41
  ·exact fin 0 t0 (ak ei (ak (decide_eq_true e.symm) aw))
  ·exact zero (by rw [pick_no ei,pick_no (ρ:=ρ) (b:=endO) (decide_eq_false e)]; rfl)
 have ei:inEv.ev ρ=true:=decide_eq_true i
 have el:elseO.rt.pick ρ=(HT.split tk4 (.split ti1 sysO elseO) elseO).rt.pick ρ->val0.ev ρ=true/\(flagAt nextE).ev ρ=true:=fun h=>by
  cases hv:val0.ev ρ with
  |false=>
   refine zero ?_
   rw [pick_yes ei,<-h]
   unfold elseO
   rw [pick_no hv]
   rfl
  |true=>
   have:=key (.again ((uS nextE).ev ρ)) (by
    rw [pick_yes ei,<-h]
    unfold elseO
    rw [pick_yes hv]
    rfl)
   have this:flN G (ρ.i 42) (ρ.i 43) (ρ.i 40) (ρ.i 41) (ρ.i 4) (ρ.i 2)=G 145 ((uS nextE).ev ρ) 0 0:=this
   rw [packX_ev hPρ,hfl] at this
   exact ⟨rfl,by rw [flAt]; exact decide_eq_true this.symm⟩
 have n43:(BE.lt (.var 43) (.add (.var 2) (.lit 1))).ev ρ=false:=decide_eq_false (show ¬ρ.i 43<ρ.i 2+1 by omega)
 cases hk:tk4.ev ρ with
 |false=>
  obtain ⟨a,b⟩:=el (by rw [pick_no hk])
  exact fin 3 t3 (ak ei (ak hk (ak a (ak b (ak n43 aw)))))
 |true=>
  cases hi:ti1.ev ρ with
  |false=>
   obtain ⟨a,b⟩:=el (by rw [pick_yes hk,pick_no hi])
   exact fin 2 t2 (ak ei (ak hk (ak hi (ak a (ak b (ak n43 aw))))))
  |true=>
   by_cases o:ρ.i 4<ρ.i 41
   case neg=>
    refine zero ?_
    rw [pick_yes ei,pick_yes hk,pick_yes hi]
    unfold sysO
    rw [pick_no (ρ:=ρ) (b:=inOut) (decide_eq_false o)]
    rfl
   have eo:inOut.ev ρ=true:=decide_eq_true o
   cases hv:outB.ev ρ with
   |false=>
    refine zero ?_
    rw [pick_yes ei,pick_yes hk,pick_yes hi]
    unfold sysO
    rw [pick_yes eo,pick_no hv]
    rfl
   |true=>
    have:=key (.again ((uS nextS).ev ρ)) (by
     rw [pick_yes ei,pick_yes hk,pick_yes hi]
     unfold sysO
     rw [pick_yes eo,pick_yes hv]
     rfl)
    have this:flN G (ρ.i 42) (ρ.i 43) (ρ.i 40) (ρ.i 41) (ρ.i 4) (ρ.i 2)=G 145 ((uS nextS).ev ρ) 0 0:=this
    rw [packX_ev hPρ,hfl] at this
    have hb:(flagAt nextS).ev ρ=true:=by rw [flAt]; exact decide_eq_true this.symm
    exact fin 1 t1 (ak ei (ak hk (ak hi (ak eo (ak hv (ak hb (ak n43 (ak (decide_eq_false (show ¬ρ.i 41<ρ.i 4+1 by omega)) aw))))))))
theorem lIn_ok:lIn.con.wf=true/\lIn.Ok PR G gh:=by
 have h:=in_run
 simp only [Bool.and_eq_true] at h
 obtain ⟨t1,t2,wf⟩:=h
 refine ⟨wf,ba.OX (L:=40) (pol:=aG) (pure:=no') (d:=12) (μ:= .sub bL (.var 26)) mixed wf rfl fun ρ h1 h2 h3=> ?_⟩
 have b25:0<=ρ.i 25/\ρ.i 25<=8:=h2 25 0 8 rfl
 have b28:0<=ρ.i 28/\ρ.i 28<=8:=h2 28 0 8 rfl
 have b26:0<=ρ.i 26/\ρ.i 26<=8:=h2 26 0 8 rfl
 have fin: ∀b,inOk b=true->(facIn b).holds ρ-> ∃(K:Know) (facts:Dec),K.Ok PR G gh/\facts.holds ρ/\ ∃e s at' q,(lIn.tree PR K 40 aG no' 12 facts (.sub bL (.var 26))).pick ρ=some (e,s)/\lIn.con.ends at' s=some q/\q.hold ρ:=fun b ht hf=>
  ⟨⟨[],[]⟩,facIn b,bc,hf,cases_leaf ht h2 h3 hf⟩
 by_cases hi:ρ.i 26<ρ.i 25-ρ.i 28
 ·refine fin true t1 (ak (decide_eq_true hi) (ak (decide_eq_false (show ¬ρ.i 25-ρ.i 28-1-ρ.i 26<0 by omega)) (ak (decide_eq_true (show ρ.i 25-ρ.i 28-1-ρ.i 26<ρ.i 25-ρ.i 28 by omega)) (ak (decide_eq_false (show ¬ρ.i 25-1-ρ.i 26<0 by omega)) (ak (decide_eq_true (show ρ.i 25-1-ρ.i 26<ρ.i 25 by omega)) (ak (decide_eq_true ?_) (ak (decide_eq_false (show ¬ρ.i 25-ρ.i 28<ρ.i 26+1 by omega)) aw)))))))
  show IntKind.u32.wrap (ag (aY (ρ.i 24) (ρ.i 28) (ρ.i 25-ρ.i 28)) (ρ.i 25-ρ.i 28-1-ρ.i 26))=IntKind.u32.wrap (ag (ρ.i 24) (ρ.i 25-1-ρ.i 26))
  rw [Ft b28.1 (by omega) (by omega) (by omega),show ρ.i 28+(ρ.i 25-ρ.i 28-1-ρ.i 26)=ρ.i 25-1-ρ.i 26 by omega]
 ·exact fin false t2 (ak (decide_eq_false hi) aw)
end
/-! boards -/
theorem evRow_low{ρ:Env}{coh:Bool}{i v:IE}{n:Nat}(hn:ρ.i 43=(n:Int))(m:Nat)(h:m<n*27):ag ((nk coh i v).ev ρ) (m:Nat)=ag (ρ.i 42) (m:Nat):=
 evSet_low (b:=n*27) (by rw [hn]; omega) _ 0 _ m (by omega)
theorem evRow_head{ρ:Env}{coh:Bool}{i v:IE}{n:Nat}(hn:ρ.i 43=(n:Int))(hi:fE (i.ev ρ))(hv:fE (v.ev ρ)):ag ((nk coh i v).ev ρ) ((n*27:Nat):Int)=(tkE coh).ev ρ/\ag ((nk coh i v).ev ρ) ((n*27+1:Nat):Int)=i.ev ρ/\ag ((nk coh i v).ev ρ) ((n*27+2:Nat):Int)=v.ev ρ:=by
 have key:=evSet_get (ρ:=ρ) (b:=n*27) (by rw [hn]; omega) (tkE coh::i::v::(List.range 24).map (eR coh)) 0 (.var 42) (fun e he=>by
  simp only [List.mem_cons,List.mem_map,List.mem_range] at he
  rcases he with rfl |rfl |rfl | ⟨k,_,rfl⟩
  ·exact xF _ _
  ·exact hi
  ·exact hv
  ·exact xF _ _)
 exact ⟨key 0 _ rfl,key 1 _ rfl,key 2 _ rfl⟩
/-- What a run leaves: events and outputs that fit. -/
def OInv(G:Nat->Int->Int->Int->Int)(coh:Bool)(ρ:Env)(X:Int):Prop:=
 ∀n:Nat,ρ.i 43=(n:Int)->ρ.i 41=((cntN (ρ.i 42) n:Nat):Int)->GoodN (ρ.i 42) (ρ.i 40) n-> ∃m:Nat,DX G (FB coh) X .u32 29=(m:Int)/\DX G (FB coh) X .u32 27=((cntN (G (FB coh).KV X 0 33) m:Nat):Int)/\GoodN (G (FB coh).KV X 0 33) (G (FB coh).KV X 0 32) m
/-- An event that is no output. -/
theorem plain_next{ρ:Env}{coh:Bool}{n:Nat}(hn:ρ.i 43=(n:Int))(ho: ¬((tkE coh).ev ρ=4/\(tiE coh).ev ρ=1)){O:Int}(hg:GoodN (ρ.i 42) O n):GoodN ((nk coh (tiE coh) (.lit 0)).ev ρ) O (n+1)/\cntN ((nk coh (tiE coh) (.lit 0)).ev ρ) (n+1)=cntN (ρ.i 42) n:=by
 obtain ⟨q0,q1,q2⟩:=evRow_head (coh:=coh) (i:=tiE coh) (v:= .lit 0) hn (xF _ _) zero_inRow
 have low:=fun m h=>evRow_low (coh:=coh) (i:=tiE coh) (v:= .lit 0) hn m h
 have bt:0<=(tkE coh).ev ρ/\(tkE coh).ev ρ<=255:=wrap_mem .u8 _
 have bi:0<=(tiE coh).ev ρ/\(tiE coh).ev ρ<=4294967295:=wrap_mem .u32 _
 have hs:sysB ((nk coh (tiE coh) (.lit 0)).ev ρ) n=false:=by
  unfold sysB
  rw [q0,q1,wrap64 (by omega) (by omega),bI .u32 _ bi.1 bi.2]
  by_cases h:(tkE coh).ev ρ=4
  ·rw [decide_eq_false (p:=(tiE coh).ev ρ=1) (fun h1=>ho ⟨h,h1⟩),Bool.and_false]
  ·rw [decide_eq_false h,Bool.false_and]
 refine ⟨good_next (good_congr low (fun _ _=>rfl) hg) ⟨fun h=>absurd (hs.symm.trans h) (by decide),fun _=> ?_⟩,?_⟩
 ·unfold vlN
  rw [q2]
  rfl
 ·rw [cnt_same hs,cnt_congr low n (Nat.le_refl n)]
section
variable{G:Nat->Int->Int->Int->Int}(hG:RunG G)
include hG
theorem board_oinv(coh:Bool): ∀ρ:Env,ρ.std G gh->Okb ρ->OInv G coh ρ ((FB coh).x.ev ρ):=by
 refine NL hG (coh:=coh) (P:=fun ρ=>OInv G coh ρ ((FB coh).x.ev ρ)) (fun ρ r h1 h2 h3 hw hn hs=> ?_) fun ρ r σ kk h1 h2 h3 hw hn ha h4 h5 h6 ih=> ?_
 ·intro n z1 z2 z3
  have at': ∀(st l:List IE),st.length=24-> ∀i:Nat,((st++l).map (·.ev ρ))[24+i]? =(l.map (·.ev ρ))[i]? :=fun st l hl i=>by
   rw [List.map_append,List.getElem?_append_right (by simp [hl]),List.length_map,hl,Nat.add_sub_cancel_left]
  have on:=h2.o
  have nn:=h2.n
  have same: ∀(st:List IE) (M:IE),st.length=24->(FB coh).is G ((FB coh).x.ev ρ) ((st++[M,.var 28,bL,.var 41,kG,.var 43,.lit 0,.lit 0,.var 40,.var 42]).map (·.ev ρ))-> ∃m:Nat,DX G (FB coh) ((FB coh).x.ev ρ) .u32 29=(m:Int)/\DX G (FB coh) ((FB coh).x.ev ρ) .u32 27=((cntN (G (FB coh).KV ((FB coh).x.ev ρ) 0 33) m:Nat):Int)/\GoodN (G (FB coh).KV ((FB coh).x.ev ρ) 0 33) (G (FB coh).KV ((FB coh).x.ev ρ) 0 32) m:=fun st M hl hs=>by
   have e29:DX G (FB coh) ((FB coh).x.ev ρ) .u32 29=ρ.i 43:=C6 hs (at' _ _ hl 5) (show (0:Int)<=ρ.i 43 by omega) (show ρ.i 43<=4294967295 by omega)
   have e27:DX G (FB coh) ((FB coh).x.ev ρ) .u32 27=ρ.i 41:=C6 hs (at' _ _ hl 3) (show (0:Int)<=ρ.i 41 by omega) (show ρ.i 41<=4294967295 by omega)
   have e33:G (FB coh).KV ((FB coh).x.ev ρ) 0 (33:Nat)=ρ.i 42:=Wb hs (at' _ _ hl 9)
   have e32:G (FB coh).KV ((FB coh).x.ev ρ) 0 (32:Nat)=ρ.i 40:=Wb hs (at' _ _ hl 8)
   refine ⟨n,by rw [e29]; exact z1,?_,?_⟩
   ·rw [e27,show (33:Int)=((33:Nat):Int) from rfl,e33]; exact z2
   ·rw [show (33:Int)=((33:Nat):Int) from rfl,e33,show (32:Int)=((32:Nat):Int) from rfl,e32]; exact z3
  cases r with
  |A=>exact same (stE (.var 90)) (.var 0) rfl hs
  |L=>exact same (zE coh) (fS coh) rfl hs
  |S=>
   have hs:(FB coh).is G ((FB coh).x.ev ρ) ((zE coh++[fS coh,.var 28,bL,.var 41,.lit 1,up 43,.lit 0,.lit 0,.var 40,nk coh (tiE coh) (.lit 0)]).map (·.ev ρ)):=hs
   have e29:DX G (FB coh) ((FB coh).x.ev ρ) .u32 29=ρ.i 43+1:=C6 hs (at' _ _ rfl 5) (show (0:Int)<=ρ.i 43+1 by omega) (show ρ.i 43+1<=4294967295 by omega)
   have e27:DX G (FB coh) ((FB coh).x.ev ρ) .u32 27=ρ.i 41:=C6 hs (at' _ _ rfl 3) (show (0:Int)<=ρ.i 41 by omega) (show ρ.i 41<=4294967295 by omega)
   have e33:G (FB coh).KV ((FB coh).x.ev ρ) 0 (33:Nat)=(nk coh (tiE coh) (.lit 0)).ev ρ:=Wb hs (at' _ _ rfl 9)
   have e32:G (FB coh).KV ((FB coh).x.ev ρ) 0 (32:Nat)=ρ.i 40:=Wb hs (at' _ _ rfl 8)
   have hno: ¬((tkE coh).ev ρ=4/\(tiE coh).ev ρ=1):=by
    obtain ⟨_,_,_,hw⟩:=hw
    rcases hw with ⟨a,b⟩ | ⟨a |a,b⟩<;>omega
   obtain ⟨g1,g2⟩:=plain_next z1 hno z3
   refine ⟨n+1,by rw [e29]; omega,?_,?_⟩
   ·rw [e27,show (33:Int)=((33:Nat):Int) from rfl,e33,g2]; exact z2
   ·rw [show (33:Int)=((33:Nat):Int) from rfl,e33,show (32:Int)=((32:Nat):Int) from rfl,e32]; exact g1
  |_=>cases hn
 ·intro n z1 z2 z3
  rw [iM ha,iM ha,Ff ha,Ff ha]
  cases r with
  |d1=>
   cases hn
   obtain ⟨_,_,_,k4,i1⟩:=hw
   obtain ⟨q0,q1,q2⟩:=evRow_head (coh:=coh) (i:= .lit 1) (v:=zo coh) z1 (show fE (1:Int) by unfold fE; omega) (xF _ _)
   have low:=fun m h=>evRow_low (coh:=coh) (i:= .lit 1) (v:=zo coh) z1 m h
   have hs:sysB ((nk coh (.lit 1) (zo coh)).ev ρ) n=true:=by
    unfold sysB
    rw [q0,q1,k4]
    rfl
   have hc:cntN ((nk coh (.lit 1) (zo coh)).ev ρ) n=cntN (ρ.i 42) n:=cnt_congr low n (Nat.le_refl n)
   have eOut:(IE.fn 1 (.var 40) (.var 41) (zo coh)).ev ρ=aD (ρ.i 40) ((cntN (ρ.i 42) n:Nat):Int) ((zo coh).ev ρ):=by
    show aD (ρ.i 40) (ρ.i 41) _=_
    rw [z2]
   have hr:fE ((zo coh).ev ρ):=xF _ _
   refine ih (n+1) (show ρ.i 43+1=_ by omega) ?_ ?_
   ·show ρ.i 41+1=((cntN ((nk coh (.lit 1) (zo coh)).ev ρ) (n+1):Nat):Int)
    rw [cnt_succ hs,hc]
    omega
   ·show GoodN ((nk coh (.lit 1) (zo coh)).ev ρ) ((IE.fn 1 (.var 40) (.var 41) (zo coh)).ev ρ) (n+1)
    refine good_next (good_congr low (fun j hj=> ?_) z3) ⟨fun _=> ?_,fun h=>absurd (hs.symm.trans h) (by decide)⟩
    ·rw [eOut]
     exact aI _ _ (by omega)
    ·unfold vlN
     rw [q2,hc,eOut]
     have:=eW (ρ.i 40) ((zo coh).ev ρ) (cntN (ρ.i 42) n) (cntN (ρ.i 42) n) hr.1 hr.2
     rw [if_pos rfl] at this
     rw [this]
  |d2=>cases hn; exact ih n z1 z2 z3
  |d5=>cases hn; exact ih n z1 z2 z3
  |d3=>cases hn; exact ih n z1 z2 z3
  |D=>
   cases hn
   have hno: ¬((tkE coh).ev ρ=4/\(tiE coh).ev ρ=1):=by
    obtain ⟨_,_,_,hw,_⟩:=hw
    rcases hw with a |a<;>omega
   obtain ⟨g1,g2⟩:=plain_next z1 hno z3
   refine ih (n+1) (show ρ.i 43+1=_ by omega) ?_ g1
   show ρ.i 41=((cntN ((nk coh (tiE coh) (.lit 0)).ev ρ) (n+1):Nat):Int)
   rw [g2]
   exact z2
  |_=>cases hn
end
/-! the law -/
def LawO(G:Nat->Int->Int->Int->Int):Prop:=LawG G/\FOut.Def G outH.rt
theorem lawO_ex: ∃G,LawO G:=by
 obtain ⟨G,hG⟩:=ac1
 obtain ⟨G',_,b,p,d⟩:=uA [(FOut,outH.rt,144)] 144 G hG.rH (by show rn 144 [(FOut,144)]=true; decide) (fun x hx=>by rw [List.mem_singleton.1 hx]; exact out_only)
 exact ⟨G',hG.mono b,d (FOut,outH.rt,144) (by simp)⟩
theorem kOu_wf:([true,false].all fun coh=>[true,false].all fun l=>(kOu coh l).cons.all Con.wf)=true:=by kernel_rfl
theorem allO{f:Bool->Bool->Bool}(h:([true,false].all fun a=>[true,false].all fun b=>f a b)=true)(a b:Bool):f a b=true:=
 List.all_eq_true.1 (List.all_eq_true.1 h a (by cases a<;>simp)) b (by cases b<;>simp)
section
variable{G:Nat->Int->Int->Int->Int}(hL:LawO G)
include hL
theorem kOu_ok(coh l:Bool):(kOu coh l).Ok PR G gh:=by
 have w:=allO kOu_wf coh l
 obtain ⟨hG,hO⟩:=hL
 have lp: ∀c∈[lOu,lIn],c.con.wf=true/\c.Ok PR G gh:=lpC (lOu_ok hG.rH hO).1 (lOu_ok hG.rH hO).2 (lpC (lIn_ok (G:=G)).1 lIn_ok.2 lpN)
 cases coh
 ·exact ia w (aJ ZL (aJ (Ec hG false l).2 (aJ (W5 hG.toRunG).2 (aJ oJ (aJ xi.2 dj))))) lp
 ·exact ia w (aJ ZL (aJ (Ec hG true l).2 (aJ (XH hG.toRunG).2 (aJ oJ (aJ xi.2 dj))))) lp
theorem outs_ok:(Ti 4).Ok PR G gh:=ac2 hL.1 fun coh l ρ h1 h2 h3=>by
 have hP:=hL.1.rH
 have h3': ∀p∈is2 coh::many l::(hd6 coh++(hdL coh++[])),p.1.ev ρ=p.2:=h3
 have hl:(many l).1.ev ρ=(many l).2:=h3' _ (List.mem_cons_of_mem _ (List.mem_cons_self ..))
 obtain ⟨ho,hmu⟩:=okbL (w:=w100) h2 hl ⟨show (0:Int)<=100 by omega,show (100:Int)<=1000 by omega⟩
 have hmu:muN (ρ.rep (σL coh l w100))=100*1002:=hmu
 have hi:=board_oinv hL.1.toRunG coh (ρ.rep (σL coh l w100)) h1 ho
 have hb:=N7 hL.1.toRunG coh (ρ.rep (σL coh l w100)) h1 ho
 rw [xLaw_rep] at hi hb
 obtain ⟨m,e1,e2,hg⟩:=hi 0 rfl rfl (fun i hi=>absurd hi (Nat.not_lt_zero i))
 obtain ⟨_,_,_,o0,o1,n0,n1,_,_⟩:=hb
 have o0:0<=DX G (FB coh) ((xLaw coh l w100).ev ρ) .u32 27:=o0
 have o1:DX G (FB coh) ((xLaw coh l w100).ev ρ) .u32 27<=0+max 0 (muN (ρ.rep (σL coh l w100))):=o1
 have n0:0<=DX G (FB coh) ((xLaw coh l w100).ev ρ) .u32 29:=n0
 have n1:DX G (FB coh) ((xLaw coh l w100).ev ρ) .u32 29<=0+max 0 (muN (ρ.rep (σL coh l w100))):=n1
 have en:(nEvO coh l).ev ρ=(m:Int):=by
  show ((dLaw coh l w100 .u32 29).ev ρ).tmod 1002001=_
  rw [dLaw_ev h1,pV n0 (by omega)]
  exact e1
 have eo:(oEvO coh l).ev ρ=((cntN ((vLaw coh l w100 33).ev ρ) m:Nat):Int):=by
  show ((dLaw coh l w100 .u32 27).ev ρ).tmod 1002001=_
  rw [dLaw_ev h1,pV o0 (by omega),vLaw_ev h1]
  exact e2
 have hPρ:gg ρ.g:=by rw [h1.1]; exact hP
 have hfl:(flagL coh l).ev ρ=true:=by
  show decide (fnI ρ 145 ((uS [vLaw coh l w100 33,nEvO coh l,vLaw coh l w100 32,oEvO coh l,.lit 0,.lit 0]).ev ρ) 0 0=1)=true
  rw [packX_ev hPρ,bY (by decide),h1.1]
  have hg':GoodN ((vLaw coh l w100 33).ev ρ) ((vLaw coh l w100 32).ev ρ) m:=by
   rw [vLaw_ev h1,vLaw_ev h1]
   exact hg
  have:=fl_good hP hL.2 hg' m 0 (by omega)
  rw [<- eo,<-en] at this
  exact decide_eq_true this
 refine bA (kOu_ok hL coh l) (allO outs_run coh l) ρ h1 h2 (show ∀p∈is2 coh::many l::(hd6 coh++(hdL coh++[(flagL coh l,true)])),p.1.ev ρ=p.2 from fun p hp=> ?_)
 simp only [List.append_nil,List.mem_cons,List.mem_append,List.not_mem_nil,or_false] at hp h3'
 rcases hp with rfl |rfl |hp |hp |rfl
 ·exact h3' _ (.inl rfl)
 ·exact h3' _ (.inr (.inl rfl))
 ·exact h3' _ (.inr (.inr (.inl hp)))
 ·exact h3' _ (.inr (.inr (.inr hp)))
 ·exact hfl
end
end
end Go.Proofs.YtbhlmedfhilkbaaGreat

/- Part Bi3. No condition. -/
import Derived.Test.YtbhlmedfhilkbaaGreatBr7
set_option linter.all false
namespace Go.Proofs.YtbhlmedfhilkbaaGreat
open Go Go.Sx
set_option maxRecDepth 1000000
noncomputable section
def anq(G:Nat->Int->Int->Int->Int)(coh:Bool)(ρ:Env)(X:Int):Prop:=
 ρ.i 26=0->0<=ρ.i 3->0<=fN (ρ.i 90)->fN (ρ.i 90)+ρ.i 3<=1000000000000->
  (DX G (FB coh) X .i64 22=fN (ρ.i 90)+ρ.i 3\/(G (FB coh).KV X 0 28=1/\DX G (FB coh) X .i64 22<fN (ρ.i 90)+ρ.i 3))/\fN (ρ.i 90)<=DX G (FB coh) X .i64 22
theorem afi{a s k:Int}(ha: -9223372036854775808<=a/\a<=9223372036854775807)(hs:0<=s/\s<=1000000000000)(hk:0<=k/\k<=10000)(h:IntKind.i64.wrap (a-s)=k):a=s+k:=by
 rw [dM] at h;simp only [rq] at h;split at h<;>omega
theorem ahl(coh:Bool){j:Nat}(hj:j<24):(zE coh)[j]? =some (eR coh j):=by
 unfold zE;rw [List.getElem?_map,List.getElem?_range hj];rfl
theorem ana{j:Nat}(hj:j<24):(stE (.var 90))[j]? =some (.wrap (D3 j) (.fn 0 (.var 90) (.lit (.ofNat j)) (.lit 0))):=by
 match j,hj with
 |0,_=>rfl
 |1,_=>rfl
 |2,_=>rfl
 |3,_=>rfl
 |4,_=>rfl
 |5,_=>rfl
 |6,_=>rfl
 |7,_=>rfl
 |8,_=>rfl
 |9,_=>rfl
 |10,_=>rfl
 |11,_=>rfl
 |12,_=>rfl
 |13,_=>rfl
 |14,_=>rfl
 |15,_=>rfl
 |16,_=>rfl
 |17,_=>rfl
 |18,_=>rfl
 |19,_=>rfl
 |20,_=>rfl
 |21,_=>rfl
 |22,_=>rfl
 |23,_=>rfl
 |j+24,h=>exact absurd h (by omega)
section
variable{G:Nat->Int->Int->Int->Int}(hG:RunG G)
include hG
theorem aj8(coh:Bool): ∀ρ:Env,ρ.std G gh->Okb ρ->anq G coh ρ ((FB coh).x.ev ρ):=by
 refine NL hG (coh:=coh) (P:=fun ρ=>anq G coh ρ ((FB coh).x.ev ρ)) (fun ρ r h1 h2 h3 hw hn hs=> ?_) fun ρ r σ kk h1 h2 h3 hw hn ha h4 h5 h6 ih=> ?_
 ·intro z0 z1 z2 z3
  have at': ∀(st l:List IE),st.length=24-> ∀i:Nat,((st++l).map (·.ev ρ))[24+i]? =(l.map (·.ev ρ))[i]? :=fun st l hl i=>by
   rw [List.map_append,List.getElem?_append_right (by simp [hl]),List.length_map,hl,Nat.add_sub_cancel_left]
  have run: ∀l:List IE,(FB coh).is G ((FB coh).x.ev ρ) ((zE coh++l).map (·.ev ρ))->DX G (FB coh) ((FB coh).x.ev ρ) .i64 22=(dR coh .i64 22).ev ρ:=fun l hs=>by
   have hm:=wrap_mem .i64 (ag (fnI ρ (FRc coh).KR (x0.ev ρ) 0 0) ((22:Nat):Int));refine C6 hs ?_ hm.1 hm.2;rw [List.map_append,List.getElem?_append_left (by rw [List.length_map]; show 22<24; decide),List.getElem?_map,ahl coh (by decide)]
   rfl
  have off: ∀ {kk:Int},Nums coh ρ kk->(dR coh .i64 22).ev ρ=fN (ρ.i 90)+kk:=fun {kk} hk=>by
   have hl:=h2.l;exact afi (wrap_mem .i64 _) ⟨z2,by omega⟩ ⟨hk.k0.1,by have:=hk.k0.2; omega⟩ hk.k
  cases r with
  |A=>
   have hs:(FB coh).is G ((FB coh).x.ev ρ) ((stE (.var 90)++[.var 0,.var 28,bL,.var 41,kG,.var 43,.lit 0,.lit 0,.var 40,.var 42]).map (·.ev ρ)):=hs
   have e:DX G (FB coh) ((FB coh).x.ev ρ) .i64 22=fN (ρ.i 90):=by
    have hm:=wrap_mem .i64 (ag (ρ.i 90) ((22:Nat):Int));refine C6 hs ?_ hm.1 hm.2;rw [List.map_append,List.getElem?_append_left (by rw [List.length_map]; show 22<24; decide),List.getElem?_map,ana (by decide)]
    rfl
   have hw: ¬(0<ρ.i 3)\/ρ.i 26=1:=hw;rw [e];omega
  |L=>
   obtain ⟨w1,w2,w3⟩:=hw;obtain ⟨kk,hk⟩:=h3 w1;have hs:(FB coh).is G ((FB coh).x.ev ρ) ((zE coh++[fS coh,.var 28,bL,.var 41,kG,.var 43,.lit 0,.lit 0,.var 40,.var 42]).map (·.ev ρ)):=hs;have e:=run [fS coh,.var 28,bL,.var 41,kG,.var 43,.lit 0,.lit 0,.var 40,.var 42] hs;rw [off hk] at e;have:=hk.k0;rw [hk.left] at w3;rw [e];omega
  |S=>
   obtain ⟨w1,w2,w3,_⟩:=hw;obtain ⟨kk,hk⟩:=h3 w1;have hs:(FB coh).is G ((FB coh).x.ev ρ) ((zE coh++[fS coh,.var 28,bL,.var 41,.lit 1,up 43,.lit 0,.lit 0,.var 40,nk coh (tiE coh) (.lit 0)]).map (·.ev ρ)):=hs;have e:=run [fS coh,.var 28,bL,.var 41,.lit 1,up 43,.lit 0,.lit 0,.var 40,nk coh (tiE coh) (.lit 0)] hs;rw [off hk] at e;have e28:G (FB coh).KV ((FB coh).x.ev ρ) 0 ((28:Nat):Int)=1:=Wb hs (at' _ _ rfl 4);have:=hk.k0;rw [hk.left] at w3;rw [e];exact ⟨.inr ⟨e28,by omega⟩,by omega⟩
  |_=>cases hn
 ·intro z0 z1 z2 z3;have hl:=h2.l;have hk0:=h3.k0;have off:(dR coh .i64 22).ev ρ=fN (ρ.i 90)+kk:=afi (wrap_mem .i64 _) ⟨z2,by omega⟩ ⟨hk0.1,by omega⟩ h3.k
  have e26:(ρ.rep σ).i 26=0:=by cases r<;>cases hn<;>rfl
  rw [iM ha,Ff ha]
  have go: ∀s1 l1:Int,fN ((ρ.rep σ).i 90)=s1->(ρ.rep σ).i 3=l1->0<=l1->s1+l1=fN (ρ.i 90)+ρ.i 3->fN (ρ.i 90)<=s1->(DX G (FB coh) ((FB coh).x.ev (ρ.rep σ)) .i64 22=fN (ρ.i 90)+ρ.i 3\/(G (FB coh).KV ((FB coh).x.ev (ρ.rep σ)) 0 28=1/\DX G (FB coh) ((FB coh).x.ev (ρ.rep σ)) .i64 22<fN (ρ.i 90)+ρ.i 3))/\fN (ρ.i 90)<=DX G (FB coh) ((FB coh).x.ev (ρ.rep σ)) .i64 22:=fun s1 l1 q1 q2 q3 q4 q5=>by
   have:=ih e26 (by rw [q2]; exact q3) (by rw [q1]; omega) (by rw [q1,q2]; omega)
   rw [q1,q2,q4] at this;exact ⟨this.1,by omega⟩
  have skip: ∀ {r:Rnd},r∈[Rnd.d1,.d2,.d5,.d3]->fN ((nt coh (zG coh (abr coh r))).ev ρ)=fN (ρ.i 90)+kk+1:=fun {r} hr=>by
   have h:=ac0 (YD coh hr) (Zo coh _) (ρ:=ρ) (j:=22) (by decide)
   have e:(xz coh (zG coh (abr coh r)) 22).ev ρ=max (IntKind.i64.wrap ((dR coh .i64 22).ev ρ+1)) 0:=by
    have:xz coh (zG coh (abr coh r)) 22=mx0 (.wrap .i64 (.add (eR coh 22) (.lit 1))):=by cases coh<;>rfl
    rw [this,adn];rfl
   rw [e,off,wrap64 (by omega) (by omega)] at h
   have h:fN _=_:=h;rw [h];omega
  have e2:=h3.gM;have e1:=h3.left
  have dvz: ∀ {r:Rnd},r∈[Rnd.d1,.d2,.d5,.d3]-> ¬(cy coh).ev ρ<1->(ρ.rep σ).i 90=(nt coh (zG coh (abr coh r))).ev ρ->(ρ.rep σ).i 3=(gM coh).ev ρ->(DX G (FB coh) ((FB coh).x.ev (ρ.rep σ)) .i64 22=fN (ρ.i 90)+ρ.i 3\/(G (FB coh).KV ((FB coh).x.ev (ρ.rep σ)) 0 28=1/\DX G (FB coh) ((FB coh).x.ev (ρ.rep σ)) .i64 22<fN (ρ.i 90)+ρ.i 3))/\fN (ρ.i 90)<=DX G (FB coh) ((FB coh).x.ev (ρ.rep σ)) .i64 22:=fun hr w q1 q2=>by
   rw [e1] at w;exact go (fN (ρ.i 90)+kk+1) (ρ.i 3-kk-1) (by rw [q1]; exact skip hr) (by rw [q2]; exact e2) (by omega) (by omega) (by omega)
  cases r with
  |d1=>cases hn; exact dvz (r:= .d1) (by simp) hw.2.2.1 rfl rfl
  |d2=>cases hn; exact dvz (r:= .d2) (by simp) hw.2.2.1 rfl rfl
  |d5=>cases hn; exact dvz (r:= .d5) (by simp) hw.2.2.1 rfl rfl
  |d3=>cases hn; exact dvz (r:= .d3) (by simp) hw.2.2.1 rfl rfl
  |D=>
   cases hn;have w:=hw.2.2.1;rw [e1] at w;refine go (fN (ρ.i 90)+kk) (ρ.i 3-kk) ?_ e1 (by omega) (by omega) (by omega)
   have h:=ac0 (YJ coh) (acz coh) (ρ:=ρ) (j:=22) (by decide)
   have e:(xz coh (N5 coh) 22).ev ρ=max ((dR coh .i64 22).ev ρ) 0:=by
    have:xz coh (N5 coh) 22=mx0 (eR coh 22):=by cases coh<;>rfl
    rw [this,adn];rfl
   rw [e,off] at h;have h:fN ((nt coh (N5 coh)).ev ρ)=_:=h;show fN ((nt coh (N5 coh)).ev ρ)=_;rw [h];omega
  |_=>cases hn
end
def afm(coh:Bool):IE:= .fn (FL1 coh).KR (FL1 coh).x (.lit 0) (.lit 0)
def ain(coh l:Bool)(w:IE):IE:=uS [mL coh,afm coh,w,.lit 0,.var 24,.lit 0,PG l,.lit 0,.lit 0,.lit 0,.lit 0,.lit 0]
def σL(coh l:Bool)(w:IE):Nat->IE:=fun i=>match i with
 |0=>mL coh
 |90=>afm coh
 |3=>w
 |24=> .var 24
 |25=>PG l
 |_=> .lit 0
def akl(coh l:Bool)(w:IE)(k:IntKind)(j:Nat):IE:=dX (FB coh).KR (ain coh l w) k j
def am2(coh l:Bool)(w:IE)(j:Nat):IE:=vX (FB coh).KV (ain coh l w) j
theorem ajw(coh l:Bool)(w:IE)(ρ:Env):(FB coh).x.ev (ρ.rep (σL coh l w))=(ain coh l w).ev ρ:=by
 rw [<- IE.a9];cases coh<;>rfl
theorem ah1{ρ:Env}{l:Bool}(h2:ρ.ok (bdL D8))(hl:(many l).1.ev ρ=(many l).2):0<=(PG l).ev ρ/\(PG l).ev ρ<=8:=by
 cases l
 ·have a: ¬(8:Int)<ρ.i 27:=of_decide_eq_false hl;have b:0<=ρ.i 27/\ρ.i 27<=9223372036854775807:=h2 27 _ _ (by rfl)
  exact ⟨b.1,show ρ.i 27<=8 by omega⟩
 ·exact ⟨show (0:Int)<=8 by omega,show (8:Int)<=8 by omega⟩
theorem anz{ρ:Env}{coh l:Bool}{w:IE}(h2:ρ.ok (bdL D8))(hl:(many l).1.ev ρ=(many l).2)(hw:0<=w.ev ρ/\w.ev ρ<=1000):Okb (ρ.rep (σL coh l w))/\muN (ρ.rep (σL coh l w))=w.ev ρ*1002:=by
 have hT:=ah1 h2 hl
 have em:muN (ρ.rep (σL coh l w))=w.ev ρ*1002:=by
  show w.ev ρ*1002-0-0=_;omega
 refine ⟨{
  l:=⟨show -10000<=w.ev ρ by omega,show w.ev ρ<=10000 by omega⟩
  r:=⟨show (0:Int)<=0 by omega,show (0:Int)<=1000 by omega⟩
  s:=⟨show (0:Int)<=0 by omega,hT.1⟩
  t:=hT.2
  o:=⟨show (0:Int)<=0 by omega,show (0:Int)<=100000000 by omega⟩
  n:=⟨show (0:Int)<=0 by omega,show (0:Int)<=100000000 by omega⟩
  z:=⟨show (0:Int)<=0 by omega,show (0:Int)<=1 by omega⟩
  pn:= ?_
  po:= ?_},em⟩
 ·rw [em]; show 0+_<=_; omega
 ·rw [em]; show 0+_<=_; omega
section
variable{G:Nat->Int->Int->Int->Int}(hG:agt G)
theorem ajp{ρ:Env}(h1:ρ.std G gh)(coh l:Bool)(w:IE)(k:IntKind)(j:Nat):(akl coh l w k j).ev ρ=DX G (FB coh) ((ain coh l w).ev ρ) k j:=by
 show k.wrap (ag (fnI ρ (FB coh).KR ((ain coh l w).ev ρ) 0 0) _)=_;rw [bY (by cases coh<;>decide),h1.1]
 rfl
include hG
theorem ajg{ρ:Env}(h1:ρ.std G gh)(coh:Bool):0<=fN ((afm coh).ev ρ)/\fN ((afm coh).ev ρ)<=99:=by
 have h:(FL1 coh).is G ((FL1 coh).x.ev ρ) ((acq coh++[mK coh]).map (·.ev ρ)):=Kp hG coh ρ h1.1
 have er:(afm coh).ev ρ=G (FL1 coh).KR ((FL1 coh).x.ev ρ) 0 0:=by
  show fnI ρ (FL1 coh).KR ((FL1 coh).x.ev ρ) 0 0=_;rw [bY (by cases coh<;>decide),h1.1]
 obtain ⟨x,hx,hb⟩: ∃x:Int,((acq coh++[mK coh]).map (·.ev ρ))[22]? =some x/\0<=x/\x<=99:=by
  have key: ∀e:IE,0<=e.ev ρ->0<=(IE.rem e (.lit 100)).ev ρ/\(IE.rem e (.lit 100)).ev ρ<=99:=fun e h0=>by
   show 0<=(e.ev ρ).tmod 100/\(e.ev ρ).tmod 100<=99;rw [Int.tmod_eq_emod_of_nonneg h0];omega
  cases coh
  ·exact ⟨_,rfl,key (dg FLQ .u8 27) (wrap_mem .u8 _).1⟩
  ·exact ⟨_,rfl,key (dg FLK .u8 27) (wrap_mem .u8 _).1⟩
 have:=C6 h hx (k:= .i64) (show (-9223372036854775808:Int)<=x by omega) (show x<=9223372036854775807 by omega)
 have e:fN ((afm coh).ev ρ)=x:=by rw [er]; exact this
 rw [e];exact hb
end
def eS(j:Nat):IE:= .wrap (D3 j) (.fn 0 (.var 90) (.lit (.ofNat j)) (.lit 0))
def agv(coh:Bool)(e:Nat->IE):Dec:=match coh with
 |true=>(List.range 8).map fun j=>(.eq (e (9+j)) (.lit 0),true)
 |false=>[(.eq (e 1) (.lit 0),true),(.eq (e 17) (.lit 0),true)]
def ak1(coh:Bool)(e:Nat->IE):Dec:=match coh with
 |true=>(.eq (e 17) (.rem (e 17) (.lit 16)),true)::agv true e
 |false=>agv false e
def ag0(hi:Int)(e:IE):Bool:=match rng (fun _=>none) e with
 |some (a,b)=>aL 0 a&&aL b hi
 |none=>false
def aji:Nat->IE->Bool
 |0,_=>false
 |n+1,e=>e.eq (pH (.var 90))||(ag0 4294967295 e||(match e with
  | .add a b=>aji n a&&aji n b
  | .wrap .i64 a=>aji n a
  |_=>false))
def akb:IE->Bool
 | .lit n=>aL 0 n
 | .wrap k e=>(IE.wrap k e).eq (abf (.var 90))||aji 6 (.wrap k e)
 | .sel _ _ _ x y=>akb x&&akb y
 |_=>false
def ajs:IE->Bool
 | .wrap k e=>(IE.wrap k e).eq (eS 17)||(match e with
   | .fn c _ _ _=>Nat.beq c 40&&bf k .u32
   |_=>false)
 | .sel _ _ _ x y=>ajs x&&ajs y
 |e=>ag0 15 e
def afy(c:Con)(F:Fns)(coh:Bool)(dec:Dec)(_:aM)(s:ASt):Bool:=
 match c.ef s with
 |some q=>E6 q (dy.stepL F)&&(akb (Mg (q.map (·.2)) 23)&&((match coh with |true=>ajs (Mg (q.map (·.2)) 17) |false=>true)&&(agv coh .var).all fun t=>match Dh (bdL c.bds) 30 dec (t.1.rep (Mg (q.map (·.2)))) with
  |some v=>bEq v t.2
  |none=>false))
 |none=>false
theorem ahk{a b:Int}(h:aL a b=true):a<=b:=by
 rw [ay] at h;exact of_decide_eq_true h
def ajf(coh:Bool)(f:Nat->Int):Prop:=match coh with
 |true=>(f 17).tmod 16=f 17/\ ∀j,j<8->f (9+j)=0
 |false=>f 1=0/\f 17=0
def amj(coh:Bool)(f:Nat->Int):Prop:=match coh with
 |true=> ∀j,j<8->f (9+j)=0
 |false=>f 1=0/\f 17=0
theorem agw{coh:Bool}{e:Nat->IE}{ρ:Env}:(agv coh e).holds ρ ↔ amj coh fun j=>(e j).ev ρ:=by
 cases coh
 ·constructor
  ·intro h;exact ⟨of_decide_eq_true (h (.eq (e 1) (.lit 0),true) (by simp [agv])),of_decide_eq_true (h (.eq (e 17) (.lit 0),true) (by simp [agv]))⟩
  ·intro ⟨h1,h2⟩ p hp;have hp:p∈[(BE.eq (e 1) (.lit 0),true),(.eq (e 17) (.lit 0),true)]:=hp;simp only [List.mem_cons,List.not_mem_nil,or_false] at hp
   rcases hp with rfl |rfl
   ·exact decide_eq_true h1
   ·exact decide_eq_true h2
 ·constructor
  ·intro h j hj;exact of_decide_eq_true (h (.eq (e (9+j)) (.lit 0),true) (List.mem_map.2 ⟨j,List.mem_range.2 hj,rfl⟩))
  ·intro h2 p hp;obtain ⟨j,hj,rfl⟩:=List.mem_map.1 hp;exact decide_eq_true (h2 j (List.mem_range.1 hj))
theorem ahi{coh:Bool}{e:Nat->IE}{ρ:Env}:(ak1 coh e).holds ρ ↔ ajf coh fun j=>(e j).ev ρ:=by
 cases coh
 ·exact agw (coh:=false)
 ·constructor
  ·intro h;exact ⟨(of_decide_eq_true (h (.eq (e 17) (.rem (e 17) (.lit 16)),true) (List.mem_cons_self ..))).symm,agw.1 fun p hp=>h p (List.mem_cons_of_mem _ hp)⟩
  ·intro ⟨h1,h2⟩ p hp
   rcases List.mem_cons.1 hp with rfl |hp
   ·exact decide_eq_true h1.symm
   ·exact (agw (coh:=true) (e:=e) (ρ:=ρ)).2 h2 p hp
theorem ae6{coh:Bool}{f g:Nat->Int}(h: ∀j,j<24->f j=g j)(hf:ajf coh f):ajf coh g:=by
 cases coh
 ·exact ⟨(h 1 (by decide)).symm.trans hf.1,(h 17 (by decide)).symm.trans hf.2⟩
 ·exact ⟨by rw [<- h 17 (by decide)]; exact hf.1,fun j hj=>(h (9+j) (by omega)).symm.trans (hf.2 j hj)⟩
theorem ahc{ρ:Env}{hi:Int}{e:IE}(h:ag0 hi e=true):0<=e.ev ρ/\e.ev ρ<=hi:=by
 unfold ag0 at h;split at h
 ·rename_i a b hr;obtain ⟨q1,q2⟩:=aa h;have q1:=ahk q1;have q2:=ahk q2;have:=bD (ρ:=ρ) (fun i lo hi h=>by cases h) e _ _ hr
  omega
 ·cases h
theorem alj{ρ:Env}(h0:0<=fN (ρ.i 90))(h1:fN (ρ.i 90)<=1000000000000): ∀(n:Nat) (e:IE),n<=6->aji n e=true->0<=e.ev ρ/\e.ev ρ<=1000000000000*((2^n:Nat):Int):=by
 intro n
 induction n with
 |zero=>intro e _ h; cases h
 |succ n ih=>
  intro e hn h;have hp:1<=2^n:=Nat.one_le_two_pow;have hq:2^n<=2^6:=Nat.pow_le_pow_right (by decide) (by omega)
  rw [Nat.pow_succ];generalize 2^n=p at*
  by_cases hA:e.eq (pH (.var 90))=true
  ·rw [IE.eq_eq hA];have:(pH (.var 90)).ev ρ=fN (ρ.i 90):=rfl;rw [this];omega
  by_cases hB:ag0 4294967295 e=true
  ·have:=ahc (ρ:=ρ) hB;omega
  unfold aji at h;rw [Bool.eq_false_iff.2 hA,Bool.eq_false_iff.2 hB,Bool.false_or,Bool.false_or] at h;clear hA hB;split at h
  ·rename_i a b;obtain ⟨ha,hb⟩:=aa h;have a1:=ih a (by omega) ha
   have b1:=ih b (by omega) hb
   show 0<=a.ev ρ+b.ev ρ/\a.ev ρ+b.ev ρ<=_;omega
  ·rename_i a;have a1:=ih a (by omega) h
   show 0<=IntKind.i64.wrap (a.ev ρ)/\IntKind.i64.wrap (a.ev ρ)<=_;rw [bI .i64 _ (show (-9223372036854775808:Int)<=_ by omega) (show _<=(9223372036854775807:Int) by omega)]
   omega
  ·cases h
theorem aky{ρ:Env}(h0:0<=fN (ρ.i 90))(h1:fN (ρ.i 90)<=1000000000000)(hd:0<=N3 (ρ.i 90)): ∀e:IE,akb e=true->0<=e.ev ρ:=by
 intro e
 induction e with
 |lit n=>intro h; exact ahk h
 |wrap k e _=>
  intro h
  rcases Bool.or_eq_true_iff.1 h with h |h
  ·rw [IE.eq_eq h];exact hd
  ·exact (alj h0 h1 6 _ (by decide) h).1
 |sel s a b x y _ _ ihx ihy=>
  intro h;obtain ⟨h1,h2⟩:=aa h;show 0<=aA s _ _ (x.ev ρ) (y.ev ρ);unfold aA;split<;>split<;>first |exact ihx h1 |exact ihy h2
 |_=>intro h; cases h
theorem alu{G:Nat->Int->Int->Int->Int}(hB:cX G){ρ:Env}(h1:ρ.std G gh)(h0:0<=(eS 17).ev ρ/\(eS 17).ev ρ<=15): ∀e:IE,ajs e=true->0<=e.ev ρ/\e.ev ρ<=15:=by
 intro e
 induction e with
 |wrap k e _=>
  intro h
  by_cases hA:(IE.wrap k e).eq (eS 17)=true
  ·rw [IE.eq_eq hA];exact h0
  ·unfold ajs at h;rw [Bool.eq_false_iff.2 hA,Bool.false_or] at h;clear hA;split at h
   ·rename_i c x y z _;obtain ⟨hc,hk⟩:=aa h;have hc:=Nat.eq_of_beq_eq_true hc;have hk:=aH hk;subst hc;subst hk;show 0<=IntKind.u32.wrap (fnI ρ 40 (x.ev ρ) (y.ev ρ) (z.ev ρ))/\_<=_
    have e:fnI ρ 40 (x.ev ρ) (y.ev ρ) (z.ev ρ)=wE (x.ev ρ) (y.ev ρ) (z.ev ρ):=by
     rw [cj hB h1 (by decide) (by decide)]
     rfl
    have hf:=S0 (x.ev ρ) (y.ev ρ) (z.ev ρ);show 0<=IntKind.u32.wrap (fnI ρ 40 (x.ev ρ) (y.ev ρ) (z.ev ρ))/\IntKind.u32.wrap (fnI ρ 40 (x.ev ρ) (y.ev ρ) (z.ev ρ))<=15;rw [e,bI .u32 _ hf.1 (show _<=(4294967295:Int) by omega)]
    exact hf
   ·cases h
 |sel s a b x y _ _ ihx ihy=>
  intro h;obtain ⟨h1,h2⟩:=aa h;show 0<=aA s _ _ (x.ev ρ) (y.ev ρ)/\aA s _ _ (x.ev ρ) (y.ev ρ)<=15;unfold aA;split<;>split<;>first |exact ihx h1 |exact ihy h2
 |_=>intro h; exact ahc h
theorem ak8(F:Fns): ∀j,j<24->Mg (dy.stepL F) j=dg F (D3 j) j
 |0,_=>rfl
 |1,_=>rfl
 |2,_=>rfl
 |3,_=>rfl
 |4,_=>rfl
 |5,_=>rfl
 |6,_=>rfl
 |7,_=>rfl
 |8,_=>rfl
 |9,_=>rfl
 |10,_=>rfl
 |11,_=>rfl
 |12,_=>rfl
 |13,_=>rfl
 |14,_=>rfl
 |15,_=>rfl
 |16,_=>rfl
 |17,_=>rfl
 |18,_=>rfl
 |19,_=>rfl
 |20,_=>rfl
 |21,_=>rfl
 |22,_=>rfl
 |23,_=>rfl
 |j+24,h=>absurd h (by omega)
theorem aju{c:Con}{F:Fns}{coh:Bool}{e:IE}{f:Int->Out}{l:List Int}(hk:7<F.KR/\7<F.KV)(hd:aj e f (fun _=>c.ao F) [] l=true)(hs:aj e f (fun _=>afy c F coh) (agv coh eS) l=true){ρ:Env}(h2:ρ.ok (bdL c.bds))(hm:e.ev ρ∈l)(hF:F.Def ρ.g (c.rows F (cg e f l)))
 {G:Nat->Int->Int->Int->Int} (hB:cX G) (h1:ρ.std G gh) (h0:(ak1 coh eS).holds ρ) (hs0:0<=fN (ρ.i 90)) (hs1:fN (ρ.i 90)<=1000000000000) (hd0:0<=N3 (ρ.i 90)):ajf coh (fun j=>(dg F (D3 j) j).ev ρ)/\0<=(dg F .i64 23).ev ρ:=by
 obtain ⟨e1,s1,dec1,hd1,a1,a2⟩:=bW hd hm (ρ:=ρ) aw;obtain ⟨e2,s2,dec2,hd2,b1,b2⟩:=bW hs hm (ρ:=ρ) (agw.2 (match coh,ahi.1 h0 with |true,h=>h.2 |false,h=>h))
 rw [a1] at b1;cases b1;obtain ⟨q,c1,c2⟩:=Con.kr (c:=c) (F:=F) (ρ:=ρ) (o:=cg e f l) (dec':=dec1) hk h2 hF a1 a2;unfold afy at b2;rw [c1] at b2;obtain ⟨d1,d2⟩:=Bool.and_eq_true_iff.1 b2;obtain ⟨d3,d2⟩:=Bool.and_eq_true_iff.1 d2;obtain ⟨d4,d2⟩:=Bool.and_eq_true_iff.1 d2
 have ev: ∀j,j<24->(Mg (q.map (·.2)) j).ev ρ=(dg F (D3 j) j).ev ρ:=fun j hj=>by
  rw [<- ak8 F j hj];exact Dq d1 c2 (show j<27 by omega) (by omega)
 constructor
 ·have hv:(agv coh .var).holds (ρ.rep (Mg (q.map (·.2)))):=fun t ht=>by
   have h:=List.all_eq_true.1 d2 t ht;split at h
   ·rename_i v hv;have:=AI h2 30 dec2 _ _ hd2 hv;rw [dt h,BE.a9] at this;exact this
   ·cases h
  have hp:=(agw (coh:=coh) (e:=IE.var) (ρ:=ρ.rep (Mg (q.map (·.2))))).1 hv;have hp:amj coh fun j=>(Mg (q.map (·.2)) j).ev ρ:=hp
  refine ae6 ev ?_;cases coh
  ·exact hp
  ·refine ⟨?_,hp⟩;have h17:=(ahi.1 h0).1;have lo:0<=(eS 17).ev ρ:=(wrap_mem .u32 _).1;have h17:((eS 17).ev ρ).tmod 16=(eS 17).ev ρ:=h17;rw [Int.tmod_eq_emod_of_nonneg lo] at h17;have:=alu hB h1 ⟨lo,by omega⟩ _ d4
   show ((Mg (q.map (·.2)) 17).ev ρ).tmod 16=(Mg (q.map (·.2)) 17).ev ρ;rw [Int.tmod_eq_emod_of_nonneg this.1];omega
 ·have:=aky hs0 hs1 hd0 _ d3;rw [ev 23 (by decide)] at this
  exact this
def ah4(c:Con)(l:List Con)(facts:Dec):Out:=
 match nV ((c.ctx PR).with (facts++c.pre)) l c.g c.args (aF c.os 0 .nil) c.os.length with
 |some (v,h,nx)=> .leaf .ret ⟨T.nil.set 0 v,h,nx⟩
 |none=> .bad (.num 998)
section
variable{G:Nat->Int->Int->Int->Int}
theorem ag7{l:List Con}(hl:bO PR G gh l){c:Con}{facts:Dec}{ρ:Env}(h1:ρ.std G gh)(h2:ρ.ok (bdL c.bds))(h3:c.pre.holds ρ)(hf:facts.holds ρ){e:aM}{s:ASt}(hs:(ah4 c l facts).pick ρ=some (e,s)): ∀B W,dA PR ρ B W c.g c.args (aF c.os 0 .nil) c.os.length s:=by
 intro B W;unfold ah4 at hs;split at hs
 ·rename_i v h nx hc;cases hs;have hC:((c.ctx PR).with (facts++c.pre)).Ok PR ρ:=(xg mixed h2).with (bJ hf h3)
  obtain ⟨k1,k2⟩:=wg (B:=B) (W:=W) hC h1 hl _ _ _ _ _ _ _ hc;refine ⟨k1,fun f w args' a b d=>(k2 f w args' a b d).mono fun e w' ⟨v',f',q1,q2,q3,q4,q5⟩=>⟨v',f',q1,q2,q3,q4,fun u hu=> ?_⟩⟩
  have hu:(T.nil.set 0 v).get 0=some u:=hu
  rcases T.aB hu with ⟨_,rfl⟩ | ⟨_,hu⟩
  ·exact q5
  ·rw [T.get_nil] at hu;cases hu
 ·cases hs
theorem air{l:List Con}(hl:bO PR G gh l){c:Con}{facts:Dec}(hf: ∀ρ:Env,ρ.std G gh->ρ.ok (bdL c.bds)->c.pre.holds ρ->facts.holds ρ)(h:c.Leaves G gh (ah4 c l facts)):c.Ok PR G gh:=by
 refine Con.Bn fun ρ h1 h2 h3=> ?_
 obtain ⟨e,s,at',q,p1,p2,p3⟩:=h ρ h1 h2 h3;exact ⟨s,at',q,ag7 hl h1 h2 h3 (hf ρ h1 h2 h3) p1,p2,p3⟩
end
attribute [local irreducible] kT pa BQ gP sM
theorem agt.mono{G G':Nat->Int->Int->Int->Int}(h:agt G)(he: ∀c,c<144->G' c=G c):agt G':=by
 have m: ∀(F:Fns) (t:RT) (K:Nat),t.only (bR F.vars) K=true->KP<K->K<=144->F.KR<144->F.KV<144->F.Def G t->F.Def G' t:=fun F t K ho hk h1 h2 h3 hd=>Fns.Def.mono h.rH hd ho hk (fun c hc=>he c (by omega)) (he _ h2) (he _ h3)
 have b:cX G':=fun c hc x y z=>by rw [he c (by omega)]; exact h.made.base c hc x y z
 have p:gg G':=fun x y z=>by rw [he KP (by decide)]; exact h.rH x y z
 have d0:=m _ _ _ RH (by decide) (by decide) (by decide) (by decide) h.d
 have d1:=m _ _ _ Q1 (by decide) (by decide) (by decide) (by decide) h.f
 have d2:=m _ _ _ Tb (by decide) (by decide) (by decide) (by decide) h.s
 have d3:=m _ _ _ ON (by decide) (by decide) (by decide) (by decide) h.r
 have d4:=m _ _ _ Mj (by decide) (by decide) (by decide) (by decide) h.k
 have d5:=m _ _ _ Um (by decide) (by decide) (by decide) (by decide) h.ks
 have d6:=m _ _ _ o1 (by decide) (by decide) (by decide) (by decide) h.made.m2
 have d7:=m _ _ _ o2 (by decide) (by decide) (by decide) (by decide) h.made.e2
 have d8:=m _ _ _ o3 (by decide) (by decide) (by decide) (by decide) h.made.ck
 have d9:=m _ _ _ o4 (by decide) (by decide) (by decide) (by decide) h.made.m3
 have d10:=m _ _ _ o5 (by decide) (by decide) (by decide) (by decide) h.made.t3
 have d11:=m _ _ _ o6 (by decide) (by decide) (by decide) (by decide) h.made.e3
 have d12:=m _ _ _ o7 (by decide) (by decide) (by decide) (by decide) h.made.cq
 have d13:=m _ _ _ o8 (by decide) (by decide) (by decide) (by decide) h.made.eq
 have d14:=m _ _ _ o9 (by decide) (by decide) (by decide) (by decide) h.made.lk
 have d15:=m _ _ _ o10 (by decide) (by decide) (by decide) (by decide) h.made.lq
 have d16:=m _ _ _ TQ (by decide) (by decide) (by decide) (by decide) h.rk
 have d17:=m _ _ _ U8 (by decide) (by decide) (by decide) (by decide) h.bk
 have d18:=m _ _ _ Sv (by decide) (by decide) (by decide) (by decide) h.bq
 have d19:=m _ _ _ SK (by decide) (by decide) (by decide) (by decide) h.lk
 have d20:=m _ _ _ Up (by decide) (by decide) (by decide) (by decide) h.lq
 exact {made:={base:=b,m2:=d6,e2:=d7,ck:=d8,m3:=d9,t3:=d10,e3:=d11,cq:=d12,eq:=d13,lk:=d14,lq:=d15},rH:=p,d:=d0,f:=d1,s:=d2,r:=d3,k:=d4,ks:=d5,rk:=d16,bk:=d17,bq:=d18,lk:=d19,lq:=d20}
end
end Go.Proofs.YtbhlmedfhilkbaaGreat

/- Part Qd3. No condition. -/
import Derived.Test.YtbhlmedfhilkbaaGreatQd2
import Derived.Test.YtbhlmedfhilkbaaGreatBd5
set_option linter.all false
namespace Go.Proofs.YtbhlmedfhilkbaaGreat
open Go Go.Sx
set_option maxRecDepth 1000000
noncomputable section
def sE:IE:=dg FD .u8 5
def oM(x:IE):IE:= .sel false sE (.lit 0) x (.lit 0)
def uX:List IE:=[dgB FD 64 0,dgB FD 16 1,dgB FD 16 2,dgB FD 16 3,dg FD .u32 4]
def IE.at'(q:Prs)(i:Nat):IE:=match q[i]? with
 |some p=>p.2
 |none=> .lit 0
def MK(dec:Dec)(e5:IE):Prs->List IE->Bool
 | [p],[]=>p.1.eq sE&&p.2.eq e5
 |p::l,d::m=>p.1.eq d&&((match prove (bdL [bC 1]) 12 dec (.eq (.sel false e5 (.lit 0) (.lit 0) p.2) (.lit 0)) with
  |some v=>v
  |none=>false)&&MK dec e5 l m)
 |_,_=>false
def Wn:Prs->IE
 | []=> .lit 0
 | [p]=>p.2
 |_::l=>Wn l
def abe(op imm:IE):BE:= .lt (.lit 3) (.sel false op (.lit 53) imm (.lit 0))
def Ds(bd:Bd)(dec:Dec)(op imm:IE):Bool:=
 match prove bd 12 dec (abe op imm) with
 |some v=> !v
 |none=>false
theorem zH{ρ:Env}{bd:Bd}(h2:ρ.ok bd){dec:Dec}(hd:dec.holds ρ){op imm:IE}(h:Ds bd dec op imm=true):op.ev ρ=53->imm.ev ρ<=3:=by
 unfold Ds at h;split at h
 ·rename_i v hv;have:=cU h2 12 dec _ _ hd hv;have hv:v=false:=by simpa using h
  subst hv;intro he;have h0: ¬(3:Int)<aA false (op.ev ρ) 53 (imm.ev ρ) 0:=of_decide_eq_false this;unfold aA at h0;simp [he] at h0;omega
 ·cases h
def Kc(n:Int)(dec:Dec)(_:aM)(s:ASt):Bool:=
 match gB.ef s with
 |some q=>MK dec (Wn q) q uX&&Ds (bdL [bC 1]) ((.eq opR (.lit n),true)::dec) (IE.at' q 0) (IE.at' q 4)
 |none=>false
theorem zA:aj opE jR Kc [] BK=true:=by kernel_rfl
theorem zB:aj opE jR Kc [] x8=true:=by kernel_rfl
theorem z64:aj opE jR Kc [] dD=true:=by rw [fp]; exact aQ zA zB
theorem UC{ρ:Env}(h2:ρ.ok (bdL [bC 1])){dec:Dec}(hd:dec.holds ρ){e5:IE}: ∀ {q:Prs} {l:List IE},MK dec e5 q l=true->q.hold ρ->sE.ev ρ=e5.ev ρ/\ ∀d∈l,sE.ev ρ≠0->d.ev ρ=0:=by
 intro q
 induction q with
 |nil=>intro l h; cases h
 |cons p q ih=>
  intro l h hq;cases l with
  |nil=>
   cases q with
   |nil=>
    obtain ⟨a,b⟩:=aa (show (p.1.eq sE&&p.2.eq e5)=true from h)
    refine ⟨?_,fun d hd=>by cases hd⟩
    rw [<- IE.eq_eq a,<-IE.eq_eq b];exact hq p (List.mem_cons_self ..)
   |cons _ _=>cases h
  |cons d m=>
   have h:(p.1.eq d&&((match prove (bdL [bC 1]) 12 dec (.eq (.sel false e5 (.lit 0) (.lit 0) p.2) (.lit 0)) with
    |some v=>v
    |none=>false)&&MK dec e5 q m))=true:=by
    cases q<;>exact h
   obtain ⟨a,h⟩:=aa h;obtain ⟨b,c⟩:=aa h;obtain ⟨e1,e2⟩:=ih c (fun x hx=>hq x (List.mem_cons_of_mem _ hx))
   refine ⟨e1,fun x hx hne=> ?_⟩
   rcases List.mem_cons.1 hx with rfl |hx
   ·split at b
    ·rename_i v hv;subst b;have:=cU h2 12 dec _ _ hd hv;have h0:aA false (e5.ev ρ) 0 0 (p.2.ev ρ)=0:=of_decide_eq_true this;unfold aA at h0;rw [<- e1] at h0;rw [<- IE.eq_eq a,hq p (List.mem_cons_self ..)]
     simpa [hne] using h0
    ·cases b
   ·exact e2 x hx hne
theorem TY{dec:Dec}{e5:IE}: ∀ {q:Prs} {l:List IE},MK dec e5 q l=true-> ∀(i:Nat) (d:IE),l[i]? =some d-> ∃p,q[i]? =some p/\p.1=d:=by
 intro q
 induction q with
 |nil=>intro l h; cases h
 |cons p q ih=>
  intro l h i d hd;cases l with
  |nil=>simp at hd
  |cons d' m=>
   have h:(p.1.eq d'&&((match prove (bdL [bC 1]) 12 dec (.eq (.sel false e5 (.lit 0) (.lit 0) p.2) (.lit 0)) with
    |some v=>v
    |none=>false)&&MK dec e5 q m))=true:=by
    cases q<;>exact h
   obtain ⟨a,h⟩:=aa h;obtain ⟨_,c⟩:=aa h;cases i with
   |zero=>exact ⟨p,rfl,by rw [IE.eq_eq a]; simpa using hd⟩
   |succ i=>exact ih c i d (by simpa using hd)
def abv:IE:= .sel false (oM (dgB FD 64 0)) (.lit 53) (.rem (oM (dg FD .u32 4)) (.lit 4)) (oM (dg FD .u32 4))
def Fx(g:FuncId):Con:={gB with g:=g,res:= .tuple [.agg [.int .i64 (oM (dgB FD 64 0)),.int .i64 (oM (dgB FD 16 1)),.int .i64 (oM (dgB FD 16 2)),.int .i64 (oM (dgB FD 16 3)),.int .u32 abv],.int .i64 sE]}
section
variable{G:Nat->Int->Int->Int->Int}(hG:FD.Def G kT)
include hG
theorem KW{ρ:Env}(h1:ρ.std G gh)(h2:ρ.ok (bdL gB.bds)):(∀ d∈uX,sE.ev ρ≠0->d.ev ρ=0)/\((dgB FD 64 0).ev ρ=53->(dg FD .u32 4).ev ρ<=3):=by
 obtain ⟨x,s,q,a,b,c⟩:=Bq hG h1 h2;obtain ⟨x2,s2,dec',hd',a1,a2⟩:=bW (ρ:=ρ) (e:=opE) (f:=jR) z64 (s9 h2) dq;rw [a] at a1;cases a1;unfold Kc at a2;rw [b] at a2;obtain ⟨a2,a3⟩:=aa a2;refine ⟨(UC h2 hd' a2 c).2,?_⟩;have hg:=zH h2 (aR hd' (t:= .eq opR (.lit (opE.ev ρ))) (v:=true) (decide_eq_true (Dz h2))) a3;have hq: ∀(i:Nat) (d:IE),uX[i]? =some d-> ∃p:IE×IE,q[i]? =some p/\p.1=d:=TY a2;obtain ⟨p0,e0,f0⟩:=hq 0 _ rfl;obtain ⟨p4,e4,f4⟩:=hq 4 _ rfl;have g0:IE.at' q 0=p0.2:=by unfold IE.at'; rw [e0]
 have g4:IE.at' q 4=p4.2:=by unfold IE.at'; rw [e4]
 rw [g0,g4,<-c p0 (List.mem_of_getElem? e0),<-c p4 (List.mem_of_getElem? e4),f0,f4] at hg;exact hg
theorem aav{ρ:Env}(h1:ρ.std G gh)(h2:ρ.ok (bdL gB.bds)): ∀d∈uX,sE.ev ρ≠0->d.ev ρ=0:=(KW hG h1 h2).1
theorem Tp{ρ:Env}(h1:ρ.std G gh)(h2:ρ.ok (bdL gB.bds)){d:IE}(hd:d∈uX):(oM d).ev ρ=d.ev ρ:=by
 show aA false (sE.ev ρ) 0 (d.ev ρ) 0=d.ev ρ;unfold aA
 by_cases h:sE.ev ρ=0
 ·simp [h]
 ·simp [h,aav hG h1 h2 d hd h]
theorem KB{g:FuncId}(h:Con.Ok PR G gh {gB with g:=g}):(Fx g).Ok PR G gh:=by
 refine Con.q9 (c:={gB with g:=g}) (r:=(Fx g).res) (q:=[(oM (dgB FD 64 0),dgB FD 64 0),(oM (dgB FD 16 1),dgB FD 16 1),(oM (dgB FD 16 2),dgB FD 16 2),(oM (dgB FD 16 3),dgB FD 16 3),(abv,dg FD .u32 4),(sE,sE)]) h rfl fun ρ h1 h2 h3 p hp=> ?_
 have z: ∀d∈uX,(oM d).ev ρ=d.ev ρ:=fun d hd=>Tp hG h1 h2 hd
 simp only [List.mem_cons,List.not_mem_nil,or_false] at hp
 rcases hp with rfl |rfl |rfl |rfl |rfl |rfl
 ·exact z _ (by simp [uX])
 ·exact z _ (by simp [uX])
 ·exact z _ (by simp [uX])
 ·exact z _ (by simp [uX])
 ·have hz:=z (dg FD .u32 4) (by simp [uX])
  have h0:=z (dgB FD 64 0) (by simp [uX])
  show aA false ((oM (dgB FD 64 0)).ev ρ) 53 (((oM (dg FD .u32 4)).ev ρ).tmod 4) ((oM (dg FD .u32 4)).ev ρ)=_;rw [hz,h0];unfold aA
  by_cases he:(dgB FD 64 0).ev ρ=53
  ·have hle:=(KW hG h1 h2).2 he;have hge:0<=(dg FD .u32 4).ev ρ:=(wrap_mem .u32 _).1;simp only [he,Bool.false_eq_true,if_false,if_true];rw [Int.tmod_eq_emod_of_nonneg hge];omega
  ·simp [he]
 ·rfl
theorem U5:(Fx 189).Ok PR G gh:=KB hG (Ui hG)
theorem RR:(Fx 121).Ok PR G gh:=KB hG (Rc hG)
end
def FF:Fns:=⟨102,103,[0,1]⟩
def aca:ab:= .iface 143 pm
def WV:List ab:=[.agg [.int .i64 (dgB FF 64 0),.int .i64 (dgB FF 16 1),.int .i64 (dgB FF 16 2),.int .i64 (dgB FF 16 3),.int .u32 (dg FF .u32 4)],.agg [.int .i64 (dg FF .u8 5),.int .u32 (dg FF .u32 6)]]
def cFq:Con:={g:=182,args:=[.int .u32 (.var 1),aca],bds:=[bC 1],os:=[dZ 1 (.var 0)],res:= .tuple WV,os':=[dZ 1 (.var 0)]}
def kF:Know:=⟨[iS 1,Fx 189],[]⟩
def pkF:FuncId->Nat->Bool:=fun g k=>Nat.beq k 1000000&&Nat.beq g 182
def tFq:Out:=cFq.tree PR kF 40 pkF no' 12 []
def pa:RT:=cFq.rows FF tFq
theorem vL:tFq.all (cFq.ao FF) []=true:=by kernel_rfl
theorem Q1:pa.only (bR FF.vars) 102=true:=by kernel_rfl
theorem Y5:kF.cons.all Con.wf=true:=by kernel_rfl
def OL(dec:Dec)(_:aM)(s:ASt):Bool:=
 match cFq.ef s with
 |some (p0::_::_::_::p4::_)=>p0.1.eq (dgB FF 64 0)&&(p4.1.eq (dg FF .u32 4)&&Ds (bdL [bC 1]) dec p0.2 p4.2)
 |_=>false
theorem ZW:tFq.all OL []=true:=by kernel_rfl
def S5:IE:= .sel false (dgB FF 64 0) (.lit 53) (.rem (dg FF .u32 4) (.lit 4)) (dg FF .u32 4)
def JY:List ab:=[.agg [.int .i64 (dgB FF 64 0),.int .i64 (dgB FF 16 1),.int .i64 (dgB FF 16 2),.int .i64 (dgB FF 16 3),.int .u32 S5],.agg [.int .i64 (dg FF .u8 5),.int .u32 (dg FF .u32 6)]]
def XZ:Con:={cFq with res:= .tuple JY}
section
variable{G:Nat->Int->Int->Int->Int}(hB:cX G)(hD:FD.Def G kT)(hF:FF.Def G pa)
include hB hD
theorem ack:kF.Ok PR G gh:=by
 have h: ∀c∈[iS 1,Fx 189],c.Ok PR G gh:=fun c hc=>by
  rcases List.mem_cons.1 hc with rfl |hc
  ·exact oe hB (by decide)
  ·rcases List.mem_cons.1 hc with rfl |hc
   ·exact U5 hD
   ·cases hc
 exact ⟨ku Y5 h,fun _ h=>by cases h⟩
include hF
omit hB hD in
theorem E1{ρ:Env}(h1:ρ.std G gh)(h2:ρ.ok (bdL cFq.bds)):(dgB FF 64 0).ev ρ=53->(dg FF .u32 4).ev ρ<=3:=by
 obtain ⟨e,s,dec',hd',a1,a2⟩:=Out.bP (ρ:=ρ) (o:=tFq) (dec:=[]) dq (p:=fun dec e s=>cFq.ao FF dec e s) vL
 obtain ⟨e2,s2,dec2,hd2,b1,b2⟩:=Out.bP (ρ:=ρ) (o:=tFq) (dec:=[]) dq (p:=OL) ZW;rw [a1] at b1;cases b1;obtain ⟨q,c1,c2⟩:=Con.kr (c:=cFq) (F:=FF) (ρ:=ρ) (o:=tFq) (dec':=dec') (by decide) h2 (by rw [h1.1]; exact hF) a1 a2
 unfold OL at b2;rw [c1] at b2;split at b2
 ·rename_i p0 q1 q2 q3 p4 l hq;cases hq;obtain ⟨k0,b2⟩:=aa b2;obtain ⟨k4,b2⟩:=aa b2;have hg:=zH h2 hd2 b2;rw [<- c2 p0 (by simp),<-c2 p4 (by simp),IE.eq_eq k0,IE.eq_eq k4] at hg
  exact hg
 ·cases b2
omit hB hD in
theorem Ju:cFq.Leaves G gh tFq:=Con.jq (c:=cFq) [] (fun _ _ _ _=>dq) (F:=FF) (by decide) (o:=tFq) vL hF
theorem W7:cFq.Ok PR G gh:=Con.f6 (c:=cFq) (K:=kF) mixed (ack hB hD) (L:=40) (pol:=pkF) (pure:=no') (d:=12) (facts:=[]) (fun _ _ _ _=>dq) (Ju hF)
theorem Vb:XZ.Ok PR G gh:=by
 refine Con.q9 (c:=cFq) (r:= .tuple JY) (q:=[(dgB FF 64 0,dgB FF 64 0),(dgB FF 16 1,dgB FF 16 1),(dgB FF 16 2,dgB FF 16 2),(dgB FF 16 3,dgB FF 16 3),(S5,dg FF .u32 4),(dg FF .u8 5,dg FF .u8 5),(dg FF .u32 6,dg FF .u32 6)]) (W7 hB hD hF) rfl fun ρ h1 h2 h3 p hp=> ?_
 simp only [List.mem_cons,List.not_mem_nil,or_false] at hp
 rcases hp with rfl |rfl |rfl |rfl |rfl |rfl |rfl
 ·rfl
 ·rfl
 ·rfl
 ·rfl
 ·show aA false ((dgB FF 64 0).ev ρ) 53 (((dg FF .u32 4).ev ρ).tmod 4) ((dg FF .u32 4).ev ρ)=_;unfold aA
  by_cases he:(dgB FF 64 0).ev ρ=53
  ·have hle:=E1 hF h1 h2 he;have hge:0<=(dg FF .u32 4).ev ρ:=(wrap_mem .u32 _).1;simp only [he,Bool.false_eq_true,if_false,if_true];rw [Int.tmod_eq_emod_of_nonneg hge];omega
  ·simp [he]
 ·rfl
 ·rfl
end
end
end Go.Proofs.YtbhlmedfhilkbaaGreat

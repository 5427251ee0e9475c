/- Part Ft1. No condition. -/
import Derived.Test.YtbhlmedfhilkbaaGreatSn1
import Derived.Test.YtbhlmedfhilkbaaGreatBs7
set_option linter.all false
namespace Go.Proofs.YtbhlmedfhilkbaaGreat
open Go Go.Sx
set_option maxRecDepth 1000000
noncomputable section
def mK(coh:Bool):IE:=match coh with
 |true=>kvE FLK 30
 |false=>kvE FLQ 30
def hd6(coh:Bool):Dec:=[(.eq (.fn 0 (mK coh) (.lit 3) (.lit 0)) (.lit 6),true),(.eq (.fn 0 (mK coh) (.lit 7) (.lit 0)) (.lit 1),coh)]
def e2:IE:= .rem (.add (.rem (.var 22) (.lit 2)) (.lit 2)) (.lit 2)
def e8:IE:= .rem (.add (.rem (.var 21) (.lit 8)) (.lit 8)) (.lit 8)
def is2(coh:Bool):BE×Bool:=match coh with
 |true=>(.eq e2 (.lit 0),true)
 |false=>(.eq e2 (.lit 1),true)
def many(l:Bool):BE×Bool:=(.lt (.lit 8) (.var 27),l)
def D8:List (Nat×Int×Int):=[yw 11,eY 20,eY 21,eY 22,eY 23,yw 27,(25,0,0)]
def Sz:ab:= .sliceS 1 (.lit 0) (.var 27) 1 false
def xG(coh:Bool):Con:={g:=15,args:=[.agg (xr [20,21,22,23])],bds:=[eY 20,eY 21,eY 22,eY 23],pre:=[is2 coh],res:= .int .i64 (.lit (match coh with |true=>1 |false=>2))}
theorem Sc:(fq (xG true) ⟨[],[]⟩ 20 12 12&&(fq (xG false) ⟨[],[]⟩ 20 12 12&&((xG true).wf&&(xG false).wf)))=true:=by kernel_rfl
def Yw(g:Nat)(coh l:Bool)(pre:Dec):Con:={g:=g,args:=[ph,.agg (xr [20,21,22,23]),Sz],os:=[fu,inO],bds:=D8,pre:=is2 coh::many l::(hd6 coh++pre),res:= .bool (.lit true),os':=[fu,inO]}
end
end Go.Proofs.YtbhlmedfhilkbaaGreat
namespace Go.Proofs.YtbhlmedfhilkbaaGreat
open Go Go.Sx Go.ChangeShapes Go.WideShapes Go.ChangeAt Go.RowKit
set_option maxRecDepth 1000000
noncomputable section
section
variable{G:Nat->Int->Int->Int->Int}(hM:Made G)
include hM
omit hM in
theorem Fi(coh:Bool):(xG coh).Ok PR G gh:=by
 have h:=Sc;cases coh
 ·exact bA bc (cN (cN h).2).1
 ·exact bA bc (cN h).1
omit hM in
theorem Pz{ρ:Env}(h2:ρ.ok (bdL D8)):ρ.ok (bdL laidB)/\Dec.holds ρ [XV]:=by
 have a1:=h2 11 0 9223372036854775807 (by rfl)
 have a2:=h2 20 (-9223372036854775808) 9223372036854775807 (by rfl)
 have a3:=h2 21 (-9223372036854775808) 9223372036854775807 (by rfl)
 have a4:=h2 22 (-9223372036854775808) 9223372036854775807 (by rfl)
 have a5:=h2 23 (-9223372036854775808) 9223372036854775807 (by rfl)
 have a6:=h2 27 0 9223372036854775807 (by rfl)
 have a7:=h2 25 0 0 (by rfl)
 refine ⟨Dg fun i lo hi h=> ?_,fun p hp=> ?_⟩
 ·simp only [laidB,yw,eY,List.mem_cons,Prod.mk.injEq,List.not_mem_nil,or_false] at h
  rcases h with ⟨rfl,rfl,rfl⟩ | ⟨rfl,rfl,rfl⟩ | ⟨rfl,rfl,rfl⟩ | ⟨rfl,rfl,rfl⟩ | ⟨rfl,rfl,rfl⟩ | ⟨rfl,rfl,rfl⟩ | ⟨rfl,rfl,rfl⟩
  ·exact a1
  ·exact a2
  ·exact a3
  ·exact a4
  ·exact a5
  ·omega
  ·exact a6
 ·rw [List.mem_singleton.1 hp];exact decide_eq_false (by show ¬(ρ.i 27<ρ.i 25); omega)
theorem Rh{ρ:Env}(h1:ρ.std G gh)(h2:ρ.ok (bdL D8))(coh:Bool):(hd6 coh).holds ρ:=by
 obtain ⟨b1,b2⟩:=Pz h2
 have key:mN ((mK coh).ev ρ)=6/\aP ((mK coh).ev ρ)=coh:=by
  cases coh
  ·exact Ha hM h1 b1 b2
  ·exact Jk hM h1 b1 b2
 intro p hp;simp only [hd6,List.mem_cons,List.not_mem_nil,or_false] at hp
 rcases hp with rfl |rfl
 ·exact decide_eq_true key.1
 ·exact key.2
def Ti(g:Nat):Con:={g:=g,args:=[ph,.agg (xr [20,21,22,23]),Sz],os:=[fu,inO],bds:=D8,pre:=[],res:= .bool (.lit true),os':=[fu,inO]}
omit hM in
theorem Yu(x:Int){m:Int}(n:Nat)(hm:m=n)(hp:0<n):0<=(x.tmod m+m).tmod m/\(x.tmod m+m).tmod m<n:=by
 have h0:0<=x.tmod m+m:=by
  have:=Int.lt_tmod_of_pos x (show 0<m by omega)
  omega
 rw [Int.tmod_eq_emod_of_nonneg h0];subst hm;exact ⟨Int.emod_nonneg _ (by omega),Int.emod_lt_of_pos _ (by omega)⟩
theorem NM{g:Nat}(h: ∀coh l,(Yw g coh l []).Ok PR G gh):(Ti g).Ok PR G gh:=by
 intro ρ h1 h2 _;have he:0<=e2.ev ρ/\e2.ev ρ<(2:Nat):=Yu (ρ.i 22) 2 rfl (by decide)
 obtain ⟨coh,hc⟩: ∃coh,(is2 coh).1.ev ρ=(is2 coh).2:=by
  by_cases e:e2.ev ρ=0
  ·exact ⟨true,decide_eq_true e⟩
  ·exact ⟨false,decide_eq_true (show e2.ev ρ=1 by omega)⟩
 refine h coh ((BE.lt (.lit 8) (.var 27)).ev ρ) ρ h1 h2 fun p hp=> ?_
 simp only [Yw,List.append_nil] at hp
 rcases List.mem_cons.1 hp with rfl |hp
 ·exact hc
 ·rcases List.mem_cons.1 hp with rfl |hp
  ·rfl
  ·exact Rh hM h1 h2 coh p hp
end
def adq:List PQ:=[.sl [.i64,.i64,.i64,.i64,.i64] false 70368744177664,.agg [.i64,.i64,.i64,.i64],.sl [.u32] false 70368744177664]
def iB(I:Nat->Int):Nat->Int
 |10=>I 0
 |11=>I 1
 |20=>I 2
 |21=>I 3
 |22=>I 4
 |23=>I 5
 |24=>I 6
 |27=>I 7
 |25=>0
 |j=>I j
def EB(G:Nat->Int->Int->Int->Int)(I:Nat->Int):Env:={i:=iB I,b:=fun _=>false,g:=G,gh:=gh}
theorem XG{G:Nat->Int->Int->Int->Int}{I:Nat->Int}: ∀i,i<8->(EB G I).i i=I i
 |0,_=>rfl
 |1,_=>rfl
 |2,_=>rfl
 |3,_=>rfl
 |4,_=>rfl
 |5,_=>rfl
 |6,_=>rfl
 |7,_=>rfl
theorem V8{ρ:Env}{f f':Ren}{i i' s:Nat}{a b:IE}{v:Value}(h:ai ρ f (.sliceS i (.lit 0) a s false) v)(hf: ∀L,f i=some L->f' i'=some L)(he:b.ev ρ=a.ev ρ):ai ρ f' (.sliceS i' (.lit 0) b s false) v:=by
 cases h with
 |sliceS hh h0 hl hc=>
  have:=ai.sliceS (ρ:=ρ) (f:=f') (i:=i') (s:=s) (st:= .lit 0) (len:=b) (nn:=false) (hf _ hh) h0 (by rw [he]; exact hl) (by rw [he]; exact hc)
  rw [he] at this;exact this
 |sliceZ hl ha=>exact .sliceZ (by rw [he]; exact hl) ha
theorem Cq{ρ:Env}{f f':Ren}{k:IntKind}{a b:IE}{v:Value}(h:ai ρ f (.int k a) v)(he:b.ev ρ=a.ev ρ):ai ρ f' (.int k b) v:=by
 cases h;rw [<- he];exact .int k b
theorem X9{H:Type}{P:Program}{enc:TypeId×Value->H}{W:World}{t0 t1 t2 u0 u2:TypeId}{more:List TypeId}{args:Array Value}{ds:List (DataW H)}{mp:List MemPlace}(hA:DataW.TrodAll enc P W 0 (fun _=>true) true [t0,t1,t2] args.toList ds mp)(h0:P.underlying t0=some (.slice u0))(b0:P.bytesOf u0=40)(h2:P.underlying t2=some (.slice u2))(b2:P.bytesOf u2=4)
 (hsz:(DataW.weightsEach P ([t0,t1,t2]++more) (ds++[])).all (· <=reachBytes)=true): ∀(j:Nat) a (n c:Nat),j≠1->args[j]? =some (.slice a n c)->(n:Int)<=70368744177664:=by
 intro j a n c hj hn;have hrb:=reachBytes_lt;obtain ⟨l⟩:=args;obtain ⟨x,vs,d,ds1,p,q,e1,rfl,rfl,k0,r1⟩:=trodAll_cons hA;obtain ⟨y,vs1,d1,ds2,p1,q1,rfl,rfl,rfl,k1,r2⟩:=trodAll_cons r1;obtain ⟨z,vs2,d2,ds3,p2,q2,rfl,rfl,rfl,k2,r3⟩:=trodAll_cons r2;obtain ⟨rfl,rfl,rfl⟩:=trodAll_nil r3;have e1:l=[x,y,z]:=e1;subst e1
 match j,hj,hn with
 |0,_,hn=>
  have hn:some x=some (.slice a n c):=hn;cases hn
  rcases zZ h0 k0 with h | ⟨elems,rest,rfl,h3⟩
  ·omega
  ·have:=sized_slice hsz (j:=0) (t:=t0) rfl rfl h0;rw [b0] at this;omega
 |1,hj,_=>exact absurd rfl hj
 |2,_,hn=>
  have hn:some z=some (.slice a n c):=hn;cases hn
  rcases zZ h2 k2 with h | ⟨elems,rest,rfl,h3⟩
  ·omega
  ·have:=sized_slice hsz (j:=2) (t:=t2) rfl rfl h2;rw [b2] at this;omega
def fB(f:Ren):Ren:=fun j=>match j with
 |0=>f 0
 |1=>f 6
 |_=>none
theorem Xl{G:Nat->Int->Int->Int->Int}{g:Nat}(h:(Ti g).Ok PR G gh){H:Type}{enc:TypeId×Value->H}{W:World}{base:Nat}{args:Array Value}{ds:List (DataW H)}{mp:List MemPlace}{ts:List TypeId}(hts:DF PR ts adq=true)(hl:args.size=3)
 (hv: ∀(j:Nat) t v,ts[j]? =some t->args[j]? =some v->Value.okWide PR W .any base t v) (ht:DataW.TrodAll enc PR W 0 (fun _=>true) true ts args.toList ds mp) (hlen: ∀(j:Nat) a (n c:Nat),j≠1->args[j]? =some (.slice a n c)->(n:Int)<=70368744177664):
 Calls PR g args W fun e w'=>e= .returned (.bool true)/\Below W.heap.size W w':=by
 obtain ⟨I,hI⟩:=QU (W:=W) (base:=base) hts (fun j p v hp hj=>by
  match j,hp with
  |0,hp=>
   have hp:some (PQ.sl [.i64,.i64,.i64,.i64,.i64] false 70368744177664)=some p:=hp;cases hp;exact ⟨fun h=>(by cases h),by decide,fun a n c e=>hlen 0 a n c (by decide) (by rw [<- e]; exact hj)⟩
  |1,hp=>
   have hp:some (PQ.agg [.i64,.i64,.i64,.i64])=some p:=hp;cases hp;exact True.intro
  |2,hp=>
   have hp:some (PQ.sl [.u32] false 70368744177664)=some p:=hp;cases hp;exact ⟨fun h=>(by cases h),by decide,fun a n c e=>hlen 2 a n c (by decide) (by rw [<- e]; exact hj)⟩) hv ht
 obtain ⟨hb,f,hr,ha,hn⟩:=hI (EB G I) (fun i hi=>XG i hi)
 have b1:0<=I 1/\I 1<=70368744177664:=hb 1 _ _ (by rfl)
 have b2: -9223372036854775808<=I 2/\I 2<=9223372036854775807:=hb 2 _ _ (by rfl)
 have b3: -9223372036854775808<=I 3/\I 3<=9223372036854775807:=hb 3 _ _ (by rfl)
 have b4: -9223372036854775808<=I 4/\I 4<=9223372036854775807:=hb 4 _ _ (by rfl)
 have b5: -9223372036854775808<=I 5/\I 5<=9223372036854775807:=hb 5 _ _ (by rfl)
 have b7:0<=I 7/\I 7<=70368744177664:=hb 7 _ _ (by rfl)
 have hbd:(EB G I).ok (bdL D8):=Dg fun i lo hi h=>by
  simp only [D8,yw,eY,List.mem_cons,Prod.mk.injEq,List.not_mem_nil,or_false] at h
  rcases h with ⟨rfl,rfl,rfl⟩ | ⟨rfl,rfl,rfl⟩ | ⟨rfl,rfl,rfl⟩ | ⟨rfl,rfl,rfl⟩ | ⟨rfl,rfl,rfl⟩ | ⟨rfl,rfl,rfl⟩ | ⟨rfl,rfl,rfl⟩
  ·show 0<=I 1/\I 1<=_; omega
  ·exact b2
  ·exact b3
  ·exact b4
  ·exact b5
  ·show 0<=I 7/\I 7<=_; omega
  ·show (0:Int)<=0/\(0:Int)<=0; omega
 have hr':au (EB G I) (· <W.heap.size) W (fB f) (aF [fu,inO] 0 .nil) W:=by
  refine ⟨hr.below,hr.bsize,fun i L hi=> ?_,fun i j Li Lj oi oj hi hj gi gj hij hown=> ?_,fun i L o hi ho=> ?_⟩
  ·match i,hi with
   |0,hi=>exact hr.lt 0 L hi
   |1,hi=>exact hr.lt 6 L hi
  ·match i,hi,gi with
   |0,_,gi=>
    have gi:some fu=some oi:=gi;cases gi;cases hown
   |1,_,gi=>
    have gi:some inO=some oi:=gi;cases gi;cases hown
  ·match i,hi,ho with
   |0,hi,ho=>
    have ho:some fu=some o:=ho;cases ho;exact hr.obj 0 L (.arr [.i64,.i64,.i64,.i64,.i64] (.var 0) (.var 1) false) hi (by rfl)
   |1,hi,ho=>
    have ho:some inO=some o:=ho;cases ho;exact hr.obj 6 L (.arr [.u32] (.var 6) (.var 7) false) hi (by rfl)
 have ha':az (EB G I) (fB f) (Ti g).args args:=by
  refine ⟨hl,fun i x v hx hv'=> ?_⟩
  match i,hx with
  |0,hx=>
   have hx:some ph=some x:=hx;cases hx;exact V8 (ha.2 0 _ v rfl hv') (fun L e=>e) rfl
  |1,hx=>
   have hx:some (.agg (xr [20,21,22,23]))=some x:=hx;cases hx;cases (show ai (EB G I) f (.agg [.int .i64 (.var 2),.int .i64 (.var 3),.int .i64 (.var 4),.int .i64 (.var 5)]) v from ha.2 1 _ v rfl hv') with
   |agg q1 q2=>
    refine .agg q1 fun k y z hy hz=> ?_
    match k,hy with
    |0,hy=>cases hy; exact Cq (q2 0 _ z rfl hz) rfl
    |1,hy=>cases hy; exact Cq (q2 1 _ z rfl hz) rfl
    |2,hy=>cases hy; exact Cq (q2 2 _ z rfl hz) rfl
    |3,hy=>cases hy; exact Cq (q2 3 _ z rfl hz) rfl
  |2,hx=>
   have hx:some Sz=some x:=hx;cases hx;exact V8 (ha.2 2 _ v rfl hv') (fun L e=>e) rfl
 refine Calls.mono (h (EB G I) ⟨rfl,rfl⟩ hbd (fun p hp=>by cases hp) (· <W.heap.size) W (fB f) W args hr' ha' (fun j hj=> ?_)) fun e w' ⟨v,he,f',_,_,hh,hv'⟩=> ?_
 ·match j,hj with
  |j+2,_=>rfl
 ·refine ⟨?_,⟨hh.below.os,hh.below.tape,hh.below.output,hh.below.size,hh.below.block⟩⟩;have:=ai.lE hv';rw [he,this]
end
end Go.Proofs.YtbhlmedfhilkbaaGreat

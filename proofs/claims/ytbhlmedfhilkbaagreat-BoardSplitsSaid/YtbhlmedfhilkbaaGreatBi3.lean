/- Running boards: how many instructions a run executes; the last event where it stops. No condition. -/
import Derived.Test.YtbhlmedfhilkbaaGreatBr7
import Derived.Test.YtbhlmedfhilkbaaGreatQr4
import Derived.Test.YtbhlmedfhilkbaaGreatBr1
import Derived.Test.YtbhlmedfhilkbaaGreatBd1
set_option linter.unusedSimpArgs false
set_option linter.unusedVariables false
set_option linter.unusedSectionVars false
namespace Go.Proofs.YtbhlmedfhilkbaaGreat
open Go Go.Sx
set_option maxRecDepth 1000000
noncomputable section
def evP(j:Nat):IE:=match j with
 |0=> .mul (.var 43) (.lit 27)
 |j=> .add (.mul (.var 43) (.lit 27)) (.lit (.ofNat j))
theorem afp(e:IE)(l:List IE)(j:Nat)(acc:IE):ZU (e::l) j acc=ZU l (j+1) (.fn 1 acc (evP j) e):=by
 cases j<;>rfl
theorem ahe{ρ:Env}{b:Nat}(hb:ρ.i 43*27=(b:Int))(j:Nat):(evP j).ev ρ=((b+j:Nat):Int):=by
 cases j with
 |zero=>exact hb
 |succ j=>
  show ρ.i 43*27+((j+1:Nat):Int)=_
  omega
theorem aha{ρ:Env}(acc p e:IE):(IE.fn 1 acc p e).ev ρ=aD (acc.ev ρ) (p.ev ρ) (e.ev ρ):=rfl
theorem ae3{ρ:Env}{b:Nat}(hb:ρ.i 43*27=(b:Int)): ∀(l:List IE) (j:Nat) (acc:IE) (m:Nat),m<b+j->ag ((ZU l j acc).ev ρ) (m:Nat)=ag (acc.ev ρ) (m:Nat):=by
 intro l
 induction l with
 |nil=>intro j acc m _; rfl
 |cons e l ih=>
  intro j acc m h
  rw [afp,ih (j+1) _ m (by omega),aha,ahe hb]
  exact aI _ _ (by omega)
theorem afv{ρ:Env}{b:Nat}(hb:ρ.i 43*27=(b:Int)): ∀(l:List IE) (j:Nat) (acc:IE),(∀ e∈l,fE (e.ev ρ))-> ∀(i:Nat) (e:IE),l[i]? =some e->ag ((ZU l j acc).ev ρ) ((b+(j+i):Nat):Int)=e.ev ρ:=by
 intro l
 induction l with
 |nil=>intro j acc _ i e he; simp at he
 |cons x l ih=>
  intro j acc hl i e he
  rw [afp]
  cases i with
  |zero=>
   cases he
   rw [ae3 hb l (j+1) _ _ (by omega),aha,ahe hb]
   have hx:=hl x (List.mem_cons_self ..)
   have:=eW (acc.ev ρ) (x.ev ρ) (b+j) (b+j) hx.1 hx.2
   rw [if_pos rfl] at this
   exact this
  |succ i=>
   rw [show b+(j+(i+1))=b+(j+1+i) by omega]
   exact ih (j+1) _ (fun e h=>hl e (List.mem_cons_of_mem _ h)) i e (by simpa using he)
theorem afn:fE (0:Int):=by unfold fE; omega
theorem afi{a s k:Int}(ha: -9223372036854775808<=a/\a<=9223372036854775807)(hs:0<=s/\s<=1000000000000)(hk:0<=k/\k<=10000)(h:IntKind.i64.wrap (a-s)=k):a=s+k:=by
 rw [dM] at h
 simp only [rq] at h
 split at h<;>omega
theorem ahl(coh:Bool){j:Nat}(hj:j<24):(zE coh)[j]? =some (eR coh j):=by
 unfold zE
 rw [List.getElem?_map,List.getElem?_range hj]
 rfl
section
variable{G:Nat->Int->Int->Int->Int}(hG:RunG G)
include hG
end
end
end Go.Proofs.YtbhlmedfhilkbaaGreat
namespace Go.Proofs.YtbhlmedfhilkbaaGreat
open Go Go.Sx
set_option maxRecDepth 1000000
noncomputable section
def afm(coh:Bool):IE:= .fn (FL1 coh).KR (FL1 coh).x (.lit 0) (.lit 0)
theorem ah1{ρ:Env}{l:Bool}(h2:ρ.ok (bdL D8))(hl:(many l).1.ev ρ=(many l).2):0<=(PG l).ev ρ/\(PG l).ev ρ<=8:=by
 cases l
 ·have a: ¬(8:Int)<ρ.i 27:=of_decide_eq_false hl
  have b:0<=ρ.i 27/\ρ.i 27<=9223372036854775807:=h2 27 _ _ (by rfl)
  exact ⟨b.1,show ρ.i 27<=8 by omega⟩
 ·exact ⟨show (0:Int)<=8 by omega,show (8:Int)<=8 by omega⟩
section
variable{G:Nat->Int->Int->Int->Int}(hG:agt G)
include hG
theorem ajg{ρ:Env}(h1:ρ.std G gh)(coh:Bool):0<=fN ((afm coh).ev ρ)/\fN ((afm coh).ev ρ)<=99:=by
 have h:(FL1 coh).is G ((FL1 coh).x.ev ρ) ((acq coh++[mK coh]).map (·.ev ρ)):=Kp hG coh ρ h1.1
 have er:(afm coh).ev ρ=G (FL1 coh).KR ((FL1 coh).x.ev ρ) 0 0:=by
  show fnI ρ (FL1 coh).KR ((FL1 coh).x.ev ρ) 0 0=_
  rw [bY (by cases coh<;>decide),h1.1]
 obtain ⟨x,hx,hb⟩: ∃x:Int,((acq coh++[mK coh]).map (·.ev ρ))[22]? =some x/\0<=x/\x<=99:=by
  have key: ∀e:IE,0<=e.ev ρ->0<=(IE.rem e (.lit 100)).ev ρ/\(IE.rem e (.lit 100)).ev ρ<=99:=fun e h0=>by
   show 0<=(e.ev ρ).tmod 100/\(e.ev ρ).tmod 100<=99
   rw [Int.tmod_eq_emod_of_nonneg h0]
   omega
  cases coh
  ·exact ⟨_,rfl,key (dg FLQ .u8 27) (wrap_mem .u8 _).1⟩
  ·exact ⟨_,rfl,key (dg FLK .u8 27) (wrap_mem .u8 _).1⟩
 have:=C6 h hx (k:= .i64) (show (-9223372036854775808:Int)<=x by omega) (show x<=9223372036854775807 by omega)
 have e:fN ((afm coh).ev ρ)=x:=by rw [er]; exact this
 rw [e]
 exact hb
end
end
end Go.Proofs.YtbhlmedfhilkbaaGreat
namespace Go.Proofs.YtbhlmedfhilkbaaGreat
open Go Go.Sx
set_option maxRecDepth 1000000
noncomputable section
def eS(j:Nat):IE:= .wrap (D3 j) (.fn 0 (.var 90) (.lit (.ofNat j)) (.lit 0))
theorem ahk{a b:Int}(h:aL a b=true):a<=b:=by
 rw [ay] at h
 exact of_decide_eq_true h
def ajf(coh:Bool)(f:Nat->Int):Prop:=match coh with
 |true=>(f 17).tmod 16=f 17/\ ∀j,j<8->f (9+j)=0
 |false=>f 1=0/\f 17=0
end
end Go.Proofs.YtbhlmedfhilkbaaGreat
namespace Go.Proofs.YtbhlmedfhilkbaaGreat
open Go Go.Sx
set_option maxRecDepth 1000000
noncomputable section
def ah4(c:Con)(l:List Con)(facts:Dec):Out:=
 match nV ((c.ctx PR).with (facts++c.pre)) l c.g c.args (aF c.os 0 .nil) c.os.length with
 |some (v,h,nx)=> .leaf .ret ⟨T.nil.set 0 v,h,nx⟩
 |none=> .bad (.num 998)
section
variable{G:Nat->Int->Int->Int->Int}
theorem ag7{l:List Con}(hl:bO PR G gh l){c:Con}{facts:Dec}{ρ:Env}(h1:ρ.std G gh)(h2:ρ.ok (bdL c.bds))(h3:c.pre.holds ρ)(hf:facts.holds ρ){e:aM}{s:ASt}(hs:(ah4 c l facts).pick ρ=some (e,s)): ∀B W,dA PR ρ B W c.g c.args (aF c.os 0 .nil) c.os.length s:=by
 intro B W
 unfold ah4 at hs
 split at hs
 ·rename_i v h nx hc
  cases hs
  have hC:((c.ctx PR).with (facts++c.pre)).Ok PR ρ:=(xg mixed h2).with (bJ hf h3)
  obtain ⟨k1,k2⟩:=wg (B:=B) (W:=W) hC h1 hl _ _ _ _ _ _ _ hc
  refine ⟨k1,fun f w args' a b d=>(k2 f w args' a b d).mono fun e w' ⟨v',f',q1,q2,q3,q4,q5⟩=>⟨v',f',q1,q2,q3,q4,fun u hu=> ?_⟩⟩
  have hu:(T.nil.set 0 v).get 0=some u:=hu
  rcases T.aB hu with ⟨_,rfl⟩ | ⟨_,hu⟩
  ·exact q5
  ·rw [T.get_nil] at hu
   cases hu
 ·cases hs
theorem air{l:List Con}(hl:bO PR G gh l){c:Con}{facts:Dec}(hf: ∀ρ:Env,ρ.std G gh->ρ.ok (bdL c.bds)->c.pre.holds ρ->facts.holds ρ)(h:c.Leaves G gh (ah4 c l facts)):c.Ok PR G gh:=by
 refine Con.Bn fun ρ h1 h2 h3=> ?_
 obtain ⟨e,s,at',q,p1,p2,p3⟩:=h ρ h1 h2 h3
 exact ⟨s,at',q,ag7 hl h1 h2 h3 (hf ρ h1 h2 h3) p1,p2,p3⟩
end
end
end Go.Proofs.YtbhlmedfhilkbaaGreat
namespace Go.Proofs.YtbhlmedfhilkbaaGreat
open Go Go.Sx
set_option maxRecDepth 1000000
noncomputable section
attribute [local irreducible] kT pa BQ gP sM
theorem agt.mono{G G':Nat->Int->Int->Int->Int}(h:agt G)(he: ∀c,c<144->G' c=G c):agt G':=by
 have m: ∀(F:Fns) (t:RT) (K:Nat),t.only (bR F.vars) K=true->KP<K->K<=144->F.KR<144->F.KV<144->F.Def G t->F.Def G' t:=fun F t K ho hk h1 h2 h3 hd=>Fns.Def.mono h.rH hd ho hk (fun c hc=>he c (by omega)) (he _ h2) (he _ h3)
 have b:cX G':=fun c hc x y z=>by rw [he c (by omega)]; exact h.made.base c hc x y z
 have p:gg G':=fun x y z=>by rw [he KP (by decide)]; exact h.rH x y z
 have d0:=m _ _ _ RH (by decide) (by decide) (by decide) (by decide) h.d
 have d1:=m _ _ _ Q1 (by decide) (by decide) (by decide) (by decide) h.f
 have d2:=m _ _ _ Tb (by decide) (by decide) (by decide) (by decide) h.s
 have d3:=m _ _ _ ON (by decide) (by decide) (by decide) (by decide) h.r
 have d4:=m _ _ _ Mj (by decide) (by decide) (by decide) (by decide) h.k
 have d5:=m _ _ _ Um (by decide) (by decide) (by decide) (by decide) h.ks
 have d6:=m _ _ _ o1 (by decide) (by decide) (by decide) (by decide) h.made.m2
 have d7:=m _ _ _ o2 (by decide) (by decide) (by decide) (by decide) h.made.e2
 have d8:=m _ _ _ o3 (by decide) (by decide) (by decide) (by decide) h.made.ck
 have d9:=m _ _ _ o4 (by decide) (by decide) (by decide) (by decide) h.made.m3
 have d10:=m _ _ _ o5 (by decide) (by decide) (by decide) (by decide) h.made.t3
 have d11:=m _ _ _ o6 (by decide) (by decide) (by decide) (by decide) h.made.e3
 have d12:=m _ _ _ o7 (by decide) (by decide) (by decide) (by decide) h.made.cq
 have d13:=m _ _ _ o8 (by decide) (by decide) (by decide) (by decide) h.made.eq
 have d14:=m _ _ _ o9 (by decide) (by decide) (by decide) (by decide) h.made.lk
 have d15:=m _ _ _ o10 (by decide) (by decide) (by decide) (by decide) h.made.lq
 have d16:=m _ _ _ TQ (by decide) (by decide) (by decide) (by decide) h.rk
 have d17:=m _ _ _ U8 (by decide) (by decide) (by decide) (by decide) h.bk
 have d18:=m _ _ _ Sv (by decide) (by decide) (by decide) (by decide) h.bq
 have d19:=m _ _ _ SK (by decide) (by decide) (by decide) (by decide) h.lk
 have d20:=m _ _ _ Up (by decide) (by decide) (by decide) (by decide) h.lq
 exact {made:={base:=b,m2:=d6,e2:=d7,ck:=d8,m3:=d9,t3:=d10,e3:=d11,cq:=d12,eq:=d13,lk:=d14,lq:=d15},rH:=p,d:=d0,f:=d1,s:=d2,r:=d3,k:=d4,ks:=d5,rk:=d16,bk:=d17,bq:=d18,lk:=d19,lq:=d20}
end
end Go.Proofs.YtbhlmedfhilkbaaGreat

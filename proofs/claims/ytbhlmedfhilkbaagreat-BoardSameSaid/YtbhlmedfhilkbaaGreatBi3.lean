/- Running boards: how many instructions a run executes; the last event where it stops. No condition. -/
import Derived.Test.YtbhlmedfhilkbaaGreatBr7
set_option linter.unusedSimpArgs false
set_option linter.unusedVariables false
set_option linter.unusedSectionVars false
namespace Go.Proofs.YtbhlmedfhilkbaaGreat
open Go Go.Sx
set_option maxRecDepth 1000000
noncomputable section
/-! the digits of an event -/
def evP(j:Nat):IE:=match j with
 |0=> .mul (.var 43) (.lit 27)
 |j=> .add (.mul (.var 43) (.lit 27)) (.lit (.ofNat j))
theorem evSet_cons(e:IE)(l:List IE)(j:Nat)(acc:IE):ZU (e::l) j acc=ZU l (j+1) (.fn 1 acc (evP j) e):=by
 cases j<;>rfl
theorem evP_ev{ρ:Env}{b:Nat}(hb:ρ.i 43*27=(b:Int))(j:Nat):(evP j).ev ρ=((b+j:Nat):Int):=by
 cases j with
 |zero=>exact hb
 |succ j=>
  show ρ.i 43*27+((j+1:Nat):Int)=_
  omega
theorem set_ev{ρ:Env}(acc p e:IE):(IE.fn 1 acc p e).ev ρ=aD (acc.ev ρ) (p.ev ρ) (e.ev ρ):=rfl
theorem evSet_low{ρ:Env}{b:Nat}(hb:ρ.i 43*27=(b:Int)): ∀(l:List IE) (j:Nat) (acc:IE) (m:Nat),m<b+j->ag ((ZU l j acc).ev ρ) (m:Nat)=ag (acc.ev ρ) (m:Nat):=by
 intro l
 induction l with
 |nil=>intro j acc m _; rfl
 |cons e l ih=>
  intro j acc m h
  rw [evSet_cons,ih (j+1) _ m (by omega),set_ev,evP_ev hb]
  exact aI _ _ (by omega)
theorem evSet_get{ρ:Env}{b:Nat}(hb:ρ.i 43*27=(b:Int)): ∀(l:List IE) (j:Nat) (acc:IE),(∀ e∈l,fE (e.ev ρ))-> ∀(i:Nat) (e:IE),l[i]? =some e->ag ((ZU l j acc).ev ρ) ((b+(j+i):Nat):Int)=e.ev ρ:=by
 intro l
 induction l with
 |nil=>intro j acc _ i e he; simp at he
 |cons x l ih=>
  intro j acc hl i e he
  rw [evSet_cons]
  cases i with
  |zero=>
   cases he
   rw [evSet_low hb l (j+1) _ _ (by omega),set_ev,evP_ev hb]
   have hx:=hl x (List.mem_cons_self ..)
   have:=eW (acc.ev ρ) (x.ev ρ) (b+j) (b+j) hx.1 hx.2
   rw [if_pos rfl] at this
   exact this
  |succ i=>
   rw [show b+(j+(i+1))=b+(j+1+i) by omega]
   exact ih (j+1) _ (fun e h=>hl e (List.mem_cons_of_mem _ h)) i e (by simpa using he)
/-- The state within an event. -/
theorem evRow_st{ρ:Env}{coh:Bool}{i v:IE}(h0:0<=ρ.i 43)(hi:fE (i.ev ρ))(hv:fE (v.ev ρ)){j:Nat}(hj:j<24):ag ((nk coh i v).ev ρ) (ρ.i 43*27+((3+j:Nat):Int))=(eR coh j).ev ρ:=by
 obtain ⟨n,hn⟩:=Int.eq_ofNat_of_zero_le h0
 have hb:ρ.i 43*27=((n*27:Nat):Int):=by rw [hn]; omega
 have:=evSet_get hb (tkE coh::i::v::(List.range 24).map (eR coh)) 0 (.var 42) (fun e he=>by
  simp only [List.mem_cons,List.mem_map,List.mem_range] at he
  rcases he with rfl |rfl |rfl | ⟨k,_,rfl⟩
  ·exact xF _ _
  ·exact hi
  ·exact hv
  ·exact xF _ _) (3+j) (eR coh j) (by
   rw [show 3+j=j+1+1+1 by omega]
   simp only [List.getElem?_cons_succ,List.getElem?_map,List.getElem?_range hj,Option.map_some])
 rw [hb,show ((n*27:Nat):Int)+((3+j:Nat):Int)=((n*27+(0+(3+j)):Nat):Int) by omega]
 exact this
theorem zero_inRow:fE (0:Int):=by unfold fE; omega
/-- Where a run stops, the last event has the state. -/
def SInv(G:Nat->Int->Int->Int->Int)(coh:Bool)(ρ:Env)(X:Int):Prop:=
 ρ.i 26=0->G (FB coh).KV X 0 28=1->ρ.i 43+1<=DX G (FB coh) X .u32 29/\ ∀j,j<24->(D3 j).wrap (ag (G (FB coh).KV X 0 33) ((DX G (FB coh) X .u32 29-1)*27+((3+j:Nat):Int)))=DX G (FB coh) X (D3 j) j
/-- How many instructions are counted. -/
def CInv(G:Nat->Int->Int->Int->Int)(coh:Bool)(ρ:Env)(X:Int):Prop:=
 ρ.i 26=0->0<=ρ.i 3->0<=fN (ρ.i 90)->fN (ρ.i 90)+ρ.i 3<=1000000000000->
  (DX G (FB coh) X .i64 22=fN (ρ.i 90)+ρ.i 3\/(G (FB coh).KV X 0 28=1/\DX G (FB coh) X .i64 22<fN (ρ.i 90)+ρ.i 3))/\fN (ρ.i 90)<=DX G (FB coh) X .i64 22
theorem wrap64_off{a s k:Int}(ha: -9223372036854775808<=a/\a<=9223372036854775807)(hs:0<=s/\s<=1000000000000)(hk:0<=k/\k<=10000)(h:IntKind.i64.wrap (a-s)=k):a=s+k:=by
 rw [dM] at h
 simp only [rq] at h
 split at h<;>omega
theorem stRun_at(coh:Bool){j:Nat}(hj:j<24):(zE coh)[j]? =some (eR coh j):=by
 unfold zE
 rw [List.getElem?_map,List.getElem?_range hj]
 rfl
theorem st0_at{j:Nat}(hj:j<24):(stE (.var 90))[j]? =some (.wrap (D3 j) (.fn 0 (.var 90) (.lit (.ofNat j)) (.lit 0))):=by
 match j,hj with
 |0,_=>rfl
 |1,_=>rfl
 |2,_=>rfl
 |3,_=>rfl
 |4,_=>rfl
 |5,_=>rfl
 |6,_=>rfl
 |7,_=>rfl
 |8,_=>rfl
 |9,_=>rfl
 |10,_=>rfl
 |11,_=>rfl
 |12,_=>rfl
 |13,_=>rfl
 |14,_=>rfl
 |15,_=>rfl
 |16,_=>rfl
 |17,_=>rfl
 |18,_=>rfl
 |19,_=>rfl
 |20,_=>rfl
 |21,_=>rfl
 |22,_=>rfl
 |23,_=>rfl
 |j+24,h=>exact absurd h (by omega)
section
variable{G:Nat->Int->Int->Int->Int}(hG:RunG G)
include hG
theorem board_sinv(coh:Bool): ∀ρ:Env,ρ.std G gh->Okb ρ->SInv G coh ρ ((FB coh).x.ev ρ):=by
 refine NL hG (coh:=coh) (P:=fun ρ=>SInv G coh ρ ((FB coh).x.ev ρ)) (fun ρ r h1 h2 h3 hw hn hs=> ?_) fun ρ r σ kk h1 h2 h3 hw hn ha h4 h5 h6 ih=> ?_
 ·intro z0 z1
  have at': ∀(st l:List IE),st.length=24-> ∀i:Nat,((st++l).map (·.ev ρ))[24+i]? =(l.map (·.ev ρ))[i]? :=fun st l hl i=>by
   rw [List.map_append,List.getElem?_append_right (by simp [hl]),List.length_map,hl,Nat.add_sub_cancel_left]
  have svz:kG.ev ρ=0:=by rw [RG (by omega)]; exact z0
  cases r with
  |A=>
   have hs:(FB coh).is G ((FB coh).x.ev ρ) ((stE (.var 90)++[.var 0,.var 28,bL,.var 41,kG,.var 43,.lit 0,.lit 0,.var 40,.var 42]).map (·.ev ρ)):=hs
   rw [show (28:Int)=((28:Nat):Int) from rfl,Wb hs (at' _ _ rfl 4)] at z1
   have z1:kG.ev ρ=1:=z1
   omega
  |L=>
   have hs:(FB coh).is G ((FB coh).x.ev ρ) ((zE coh++[fS coh,.var 28,bL,.var 41,kG,.var 43,.lit 0,.lit 0,.var 40,.var 42]).map (·.ev ρ)):=hs
   rw [show (28:Int)=((28:Nat):Int) from rfl,Wb hs (at' _ _ rfl 4)] at z1
   have z1:kG.ev ρ=1:=z1
   omega
  |S=>
   have hs:(FB coh).is G ((FB coh).x.ev ρ) ((zE coh++[fS coh,.var 28,bL,.var 41,.lit 1,up 43,.lit 0,.lit 0,.var 40,nk coh (tiE coh) (.lit 0)]).map (·.ev ρ)):=hs
   have hn2:=h2.n
   have e29:DX G (FB coh) ((FB coh).x.ev ρ) .u32 29=ρ.i 43+1:=C6 hs (at' _ _ rfl 5) (show (0:Int)<=ρ.i 43+1 by omega) (show ρ.i 43+1<=4294967295 by omega)
   have e33:G (FB coh).KV ((FB coh).x.ev ρ) 0 (33:Nat)=(nk coh (tiE coh) (.lit 0)).ev ρ:=Wb hs (at' _ _ rfl 9)
   refine ⟨by rw [e29]; omega,fun j hj=> ?_⟩
   have ej:DX G (FB coh) ((FB coh).x.ev ρ) (D3 j) j=(eR coh j).ev ρ:=by
    have hm:=wrap_mem (D3 j) (ag (fnI ρ (FRc coh).KR (x0.ev ρ) 0 0) ((j:Nat):Int))
    refine C6 hs ?_ hm.1 hm.2
    rw [List.map_append,List.getElem?_append_left (by rw [List.length_map]; show j<24; exact hj),List.getElem?_map,stRun_at coh hj]
    rfl
   rw [ej,e29,show (33:Int)=((33:Nat):Int) from rfl,e33,show ρ.i 43+1-1=ρ.i 43 by omega,evRow_st (i:=tiE coh) (v:= .lit 0) hn2.1 (xF _ _) zero_inRow hj]
   exact bI _ _ (wrap_mem _ _).1 (wrap_mem _ _).2
  |_=>cases hn
 ·intro z0 z1
  have e26:(ρ.rep σ).i 26=0:=by cases r<;>cases hn<;>rfl
  have e43:ρ.i 43<=(ρ.rep σ).i 43:=by
   cases r<;>cases hn
   ·show ρ.i 43<=ρ.i 43+1; omega
   ·exact Int.le_refl _
   ·exact Int.le_refl _
   ·exact Int.le_refl _
   ·show ρ.i 43<=ρ.i 43+1; omega
  rw [Ff ha] at z1
  obtain ⟨a,b⟩:=ih e26 z1
  rw [iM ha,Ff ha]
  exact ⟨by omega,fun j hj=>by rw [iM ha]; exact b j hj⟩
theorem board_cinv(coh:Bool): ∀ρ:Env,ρ.std G gh->Okb ρ->CInv G coh ρ ((FB coh).x.ev ρ):=by
 refine NL hG (coh:=coh) (P:=fun ρ=>CInv G coh ρ ((FB coh).x.ev ρ)) (fun ρ r h1 h2 h3 hw hn hs=> ?_) fun ρ r σ kk h1 h2 h3 hw hn ha h4 h5 h6 ih=> ?_
 ·intro z0 z1 z2 z3
  have at': ∀(st l:List IE),st.length=24-> ∀i:Nat,((st++l).map (·.ev ρ))[24+i]? =(l.map (·.ev ρ))[i]? :=fun st l hl i=>by
   rw [List.map_append,List.getElem?_append_right (by simp [hl]),List.length_map,hl,Nat.add_sub_cancel_left]
  have run: ∀l:List IE,(FB coh).is G ((FB coh).x.ev ρ) ((zE coh++l).map (·.ev ρ))->DX G (FB coh) ((FB coh).x.ev ρ) .i64 22=(dR coh .i64 22).ev ρ:=fun l hs=>by
   have hm:=wrap_mem .i64 (ag (fnI ρ (FRc coh).KR (x0.ev ρ) 0 0) ((22:Nat):Int))
   refine C6 hs ?_ hm.1 hm.2
   rw [List.map_append,List.getElem?_append_left (by rw [List.length_map]; show 22<24; decide),List.getElem?_map,stRun_at coh (by decide)]
   rfl
  have off: ∀ {kk:Int},Nums coh ρ kk->(dR coh .i64 22).ev ρ=fN (ρ.i 90)+kk:=fun {kk} hk=>by
   have hl:=h2.l
   exact wrap64_off (wrap_mem .i64 _) ⟨z2,by omega⟩ ⟨hk.k0.1,by have:=hk.k0.2; omega⟩ hk.k
  cases r with
  |A=>
   have hs:(FB coh).is G ((FB coh).x.ev ρ) ((stE (.var 90)++[.var 0,.var 28,bL,.var 41,kG,.var 43,.lit 0,.lit 0,.var 40,.var 42]).map (·.ev ρ)):=hs
   have e:DX G (FB coh) ((FB coh).x.ev ρ) .i64 22=fN (ρ.i 90):=by
    have hm:=wrap_mem .i64 (ag (ρ.i 90) ((22:Nat):Int))
    refine C6 hs ?_ hm.1 hm.2
    rw [List.map_append,List.getElem?_append_left (by rw [List.length_map]; show 22<24; decide),List.getElem?_map,st0_at (by decide)]
    rfl
   have hw: ¬(0<ρ.i 3)\/ρ.i 26=1:=hw
   rw [e]
   omega
  |L=>
   obtain ⟨w1,w2,w3⟩:=hw
   obtain ⟨kk,hk⟩:=h3 w1
   have hs:(FB coh).is G ((FB coh).x.ev ρ) ((zE coh++[fS coh,.var 28,bL,.var 41,kG,.var 43,.lit 0,.lit 0,.var 40,.var 42]).map (·.ev ρ)):=hs
   have e:=run [fS coh,.var 28,bL,.var 41,kG,.var 43,.lit 0,.lit 0,.var 40,.var 42] hs
   rw [off hk] at e
   have:=hk.k0
   rw [hk.left] at w3
   rw [e]
   omega
  |S=>
   obtain ⟨w1,w2,w3,_⟩:=hw
   obtain ⟨kk,hk⟩:=h3 w1
   have hs:(FB coh).is G ((FB coh).x.ev ρ) ((zE coh++[fS coh,.var 28,bL,.var 41,.lit 1,up 43,.lit 0,.lit 0,.var 40,nk coh (tiE coh) (.lit 0)]).map (·.ev ρ)):=hs
   have e:=run [fS coh,.var 28,bL,.var 41,.lit 1,up 43,.lit 0,.lit 0,.var 40,nk coh (tiE coh) (.lit 0)] hs
   rw [off hk] at e
   have e28:G (FB coh).KV ((FB coh).x.ev ρ) 0 ((28:Nat):Int)=1:=Wb hs (at' _ _ rfl 4)
   have:=hk.k0
   rw [hk.left] at w3
   rw [e]
   exact ⟨.inr ⟨e28,by omega⟩,by omega⟩
  |_=>cases hn
 ·intro z0 z1 z2 z3
  have hl:=h2.l
  have hk0:=h3.k0
  have off:(dR coh .i64 22).ev ρ=fN (ρ.i 90)+kk:=wrap64_off (wrap_mem .i64 _) ⟨z2,by omega⟩ ⟨hk0.1,by omega⟩ h3.k
  have e26:(ρ.rep σ).i 26=0:=by cases r<;>cases hn<;>rfl
  rw [iM ha,Ff ha]
  have go: ∀s1 l1:Int,fN ((ρ.rep σ).i 90)=s1->(ρ.rep σ).i 3=l1->0<=l1->s1+l1=fN (ρ.i 90)+ρ.i 3->fN (ρ.i 90)<=s1->(DX G (FB coh) ((FB coh).x.ev (ρ.rep σ)) .i64 22=fN (ρ.i 90)+ρ.i 3\/(G (FB coh).KV ((FB coh).x.ev (ρ.rep σ)) 0 28=1/\DX G (FB coh) ((FB coh).x.ev (ρ.rep σ)) .i64 22<fN (ρ.i 90)+ρ.i 3))/\fN (ρ.i 90)<=DX G (FB coh) ((FB coh).x.ev (ρ.rep σ)) .i64 22:=fun s1 l1 q1 q2 q3 q4 q5=>by
   have:=ih e26 (by rw [q2]; exact q3) (by rw [q1]; omega) (by rw [q1,q2]; omega)
   rw [q1,q2,q4] at this
   exact ⟨this.1,by omega⟩
  have skip: ∀ {r:Rnd},r∈[Rnd.d1,.d2,.d5,.d3]->fN ((nt coh (zG coh (abr coh r))).ev ρ)=fN (ρ.i 90)+kk+1:=fun {r} hr=>by
   have h:=ac0 (YD coh hr) (Zo coh _) (ρ:=ρ) (j:=22) (by decide)
   have e:(xz coh (zG coh (abr coh r)) 22).ev ρ=max (IntKind.i64.wrap ((dR coh .i64 22).ev ρ+1)) 0:=by
    have:xz coh (zG coh (abr coh r)) 22=mx0 (.wrap .i64 (.add (eR coh 22) (.lit 1))):=by cases coh<;>rfl
    rw [this,adn]
    rfl
   rw [e,off,wrap64 (by omega) (by omega)] at h
   have h:fN _=_:=h
   rw [h]
   omega
  have e2:=h3.gM
  have e1:=h3.left
  have dvz: ∀ {r:Rnd},r∈[Rnd.d1,.d2,.d5,.d3]-> ¬(cy coh).ev ρ<1->(ρ.rep σ).i 90=(nt coh (zG coh (abr coh r))).ev ρ->(ρ.rep σ).i 3=(gM coh).ev ρ->(DX G (FB coh) ((FB coh).x.ev (ρ.rep σ)) .i64 22=fN (ρ.i 90)+ρ.i 3\/(G (FB coh).KV ((FB coh).x.ev (ρ.rep σ)) 0 28=1/\DX G (FB coh) ((FB coh).x.ev (ρ.rep σ)) .i64 22<fN (ρ.i 90)+ρ.i 3))/\fN (ρ.i 90)<=DX G (FB coh) ((FB coh).x.ev (ρ.rep σ)) .i64 22:=fun hr w q1 q2=>by
   rw [e1] at w
   exact go (fN (ρ.i 90)+kk+1) (ρ.i 3-kk-1) (by rw [q1]; exact skip hr) (by rw [q2]; exact e2) (by omega) (by omega) (by omega)
  cases r with
  |d1=>cases hn; exact dvz (r:= .d1) (by simp) hw.2.2.1 rfl rfl
  |d2=>cases hn; exact dvz (r:= .d2) (by simp) hw.2.2.1 rfl rfl
  |d5=>cases hn; exact dvz (r:= .d5) (by simp) hw.2.2.1 rfl rfl
  |d3=>cases hn; exact dvz (r:= .d3) (by simp) hw.2.2.1 rfl rfl
  |D=>
   cases hn
   have w:=hw.2.2.1
   rw [e1] at w
   refine go (fN (ρ.i 90)+kk) (ρ.i 3-kk) ?_ e1 (by omega) (by omega) (by omega)
   have h:=ac0 (YJ coh) (acz coh) (ρ:=ρ) (j:=22) (by decide)
   have e:(xz coh (N5 coh) 22).ev ρ=max ((dR coh .i64 22).ev ρ) 0:=by
    have:xz coh (N5 coh) 22=mx0 (eR coh 22):=by cases coh<;>rfl
    rw [this,adn]
    rfl
   rw [e,off] at h
   have h:fN ((nt coh (N5 coh)).ev ρ)=_:=h
   show fN ((nt coh (N5 coh)).ev ρ)=_
   rw [h]
   omega
  |_=>cases hn
end
end
end Go.Proofs.YtbhlmedfhilkbaaGreat
namespace Go.Proofs.YtbhlmedfhilkbaaGreat
open Go Go.Sx
set_option maxRecDepth 1000000
noncomputable section
def stopP:BE×Bool:=(.eq (.var 26) (.lit 1),true)
def cZQ:Con:={g:=24,args:=Tx,os:=[kH (.iface qPT (.ptr (some (1,0)))) (inS 2) (im 3) dF,dZ 1 (.var 0),inN,gL],bds:=Gj,pre:=[stopP],res:= .slice none 0 0 0,os':=[kH (.iface qPT (.ptr (some (1,0)))) (inS 2) (im 3) dF,dZ 1 (.var 0),inN,gL]}
def zoK:List ah:=[kH (.iface kPT (.ptr (some (1,0)))) (inS 3) (im 4) dF,nH (b9 (.var 90)) 2,dZ 0 (.var 0),inN,gL]
def cZK:Con:={g:=24,args:=Tx,os:=zoK,bds:=Gj,pre:=[stopP],res:= .slice none 0 0 0,os':=zoK}
theorem z_run:(fq cZQ ⟨[],[]⟩ 20 12 12&&(fq cZK ⟨[],[]⟩ 20 12 12&&(cZQ.wf&&cZK.wf)))=true:=by kernel_rfl
theorem cZQ_ok{G:Nat->Int->Int->Int->Int}:cZQ.wf=true/\cZQ.Ok PR G gh:=by
 obtain ⟨h1,h2⟩:=aa z_run
 exact ⟨(aa (aa h2).2).1,bA bc h1⟩
theorem cZK_ok{G:Nat->Int->Int->Int->Int}:cZK.wf=true/\cZK.Ok PR G gh:=by
 obtain ⟨h1,h2⟩:=aa z_run
 exact ⟨(aa (aa h2).2).2,bA bc (aa h2).1⟩
/-! nothing is to be executed -/
def noneP:BE×Bool:=(.lt (.lit 0) (.var 3),false)
def cNQ:Con:={cZQ with pre:=[noneP]}
def cNK:Con:={cZK with pre:=[noneP]}
theorem n_run:(fq cNQ ⟨[],[]⟩ 20 12 12&&(fq cNK ⟨[],[]⟩ 20 12 12&&(cNQ.wf&&cNK.wf)))=true:=by kernel_rfl
theorem cNQ_ok{G:Nat->Int->Int->Int->Int}:cNQ.wf=true/\cNQ.Ok PR G gh:=by
 obtain ⟨h1,h2⟩:=aa n_run
 exact ⟨(aa (aa h2).2).1,bA bc h1⟩
theorem cNK_ok{G:Nat->Int->Int->Int->Int}:cNK.wf=true/\cNK.Ok PR G gh:=by
 obtain ⟨h1,h2⟩:=aa n_run
 exact ⟨(aa (aa h2).2).2,bA bc (aa h2).1⟩
/-! the first run of a board that a law lays -/
def rowL(coh:Bool):IE:= .fn (FL1 coh).KR (FL1 coh).x (.lit 0) (.lit 0)
/-- Its arguments: w instructions. -/
def xLaw(coh l:Bool)(w:IE):IE:=uS [mL coh,rowL coh,w,.lit 0,.var 24,.lit 0,PG l,.lit 0,.lit 0,.lit 0,.lit 0,.lit 0]
def σL(coh l:Bool)(w:IE):Nat->IE:=fun i=>match i with
 |0=>mL coh
 |90=>rowL coh
 |3=>w
 |24=> .var 24
 |25=>PG l
 |_=> .lit 0
def dLaw(coh l:Bool)(w:IE)(k:IntKind)(j:Nat):IE:=dX (FB coh).KR (xLaw coh l w) k j
def vLaw(coh l:Bool)(w:IE)(j:Nat):IE:=vX (FB coh).KV (xLaw coh l w) j
theorem xLaw_rep(coh l:Bool)(w:IE)(ρ:Env):(FB coh).x.ev (ρ.rep (σL coh l w))=(xLaw coh l w).ev ρ:=by
 rw [<- IE.a9]
 cases coh<;>rfl
theorem lenT_ev{ρ:Env}{l:Bool}(h2:ρ.ok (bdL D8))(hl:(many l).1.ev ρ=(many l).2):0<=(PG l).ev ρ/\(PG l).ev ρ<=8:=by
 cases l
 ·have a: ¬(8:Int)<ρ.i 27:=of_decide_eq_false hl
  have b:0<=ρ.i 27/\ρ.i 27<=9223372036854775807:=h2 27 _ _ (by rfl)
  exact ⟨b.1,show ρ.i 27<=8 by omega⟩
 ·exact ⟨show (0:Int)<=8 by omega,show (8:Int)<=8 by omega⟩
theorem okbL{ρ:Env}{coh l:Bool}{w:IE}(h2:ρ.ok (bdL D8))(hl:(many l).1.ev ρ=(many l).2)(hw:0<=w.ev ρ/\w.ev ρ<=1000):Okb (ρ.rep (σL coh l w))/\muN (ρ.rep (σL coh l w))=w.ev ρ*1002:=by
 have hT:=lenT_ev h2 hl
 have em:muN (ρ.rep (σL coh l w))=w.ev ρ*1002:=by
  show w.ev ρ*1002-0-0=_
  omega
 refine ⟨{
  l:=⟨show -10000<=w.ev ρ by omega,show w.ev ρ<=10000 by omega⟩
  r:=⟨show (0:Int)<=0 by omega,show (0:Int)<=1000 by omega⟩
  s:=⟨show (0:Int)<=0 by omega,hT.1⟩
  t:=hT.2
  o:=⟨show (0:Int)<=0 by omega,show (0:Int)<=100000000 by omega⟩
  n:=⟨show (0:Int)<=0 by omega,show (0:Int)<=100000000 by omega⟩
  z:=⟨show (0:Int)<=0 by omega,show (0:Int)<=1 by omega⟩
  pn:= ?_
  po:= ?_},em⟩
 ·rw [em]; show 0+_<=_; omega
 ·rw [em]; show 0+_<=_; omega
section
variable{G:Nat->Int->Int->Int->Int}(hG:LawG G)
theorem dLaw_ev{ρ:Env}(h1:ρ.std G gh)(coh l:Bool)(w:IE)(k:IntKind)(j:Nat):(dLaw coh l w k j).ev ρ=DX G (FB coh) ((xLaw coh l w).ev ρ) k j:=by
 show k.wrap (ag (fnI ρ (FB coh).KR ((xLaw coh l w).ev ρ) 0 0) _)=_
 rw [bY (by cases coh<;>decide),h1.1]
 rfl
theorem vLaw_ev{ρ:Env}(h1:ρ.std G gh)(coh l:Bool)(w:IE)(j:Nat):(vLaw coh l w j).ev ρ=G (FB coh).KV ((xLaw coh l w).ev ρ) 0 (j:Nat):=by
 show fnI ρ (FB coh).KV ((xLaw coh l w).ev ρ) 0 _=_
 rw [bY (by cases coh<;>decide),h1.1]
 rfl
include hG
/-- The steps at the beginning: less than 100. -/
theorem stpL{ρ:Env}(h1:ρ.std G gh)(coh:Bool):0<=fN ((rowL coh).ev ρ)/\fN ((rowL coh).ev ρ)<=99:=by
 have h:(FL1 coh).is G ((FL1 coh).x.ev ρ) ((acq coh++[mK coh]).map (·.ev ρ)):=Kp hG coh ρ h1.1
 have er:(rowL coh).ev ρ=G (FL1 coh).KR ((FL1 coh).x.ev ρ) 0 0:=by
  show fnI ρ (FL1 coh).KR ((FL1 coh).x.ev ρ) 0 0=_
  rw [bY (by cases coh<;>decide),h1.1]
 obtain ⟨x,hx,hb⟩: ∃x:Int,((acq coh++[mK coh]).map (·.ev ρ))[22]? =some x/\0<=x/\x<=99:=by
  have key: ∀e:IE,0<=e.ev ρ->0<=(IE.rem e (.lit 100)).ev ρ/\(IE.rem e (.lit 100)).ev ρ<=99:=fun e h0=>by
   show 0<=(e.ev ρ).tmod 100/\(e.ev ρ).tmod 100<=99
   rw [Int.tmod_eq_emod_of_nonneg h0]
   omega
  cases coh
  ·exact ⟨_,rfl,key (dg FLQ .u8 27) (wrap_mem .u8 _).1⟩
  ·exact ⟨_,rfl,key (dg FLK .u8 27) (wrap_mem .u8 _).1⟩
 have:=C6 h hx (k:= .i64) (show (-9223372036854775808:Int)<=x by omega) (show x<=9223372036854775807 by omega)
 have e:fN ((rowL coh).ev ρ)=x:=by rw [er]; exact this
 rw [e]
 exact hb
end
end
end Go.Proofs.YtbhlmedfhilkbaaGreat

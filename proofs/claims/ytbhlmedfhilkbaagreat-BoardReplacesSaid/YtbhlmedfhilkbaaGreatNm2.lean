/- A state that is normal stays so: machines' runs, boards' runs. No condition. -/
import Derived.Test.YtbhlmedfhilkbaaGreatNmK
import Derived.Test.YtbhlmedfhilkbaaGreatBi3
set_option linter.unusedSimpArgs false
set_option linter.unusedVariables false
set_option linter.unusedSectionVars false
namespace Go.Proofs.YtbhlmedfhilkbaaGreat
open Go Go.Sx
set_option maxRecDepth 1000000
noncomputable section
theorem nrmK_all:aj kj tKs (fun _=>nrmLeaf da FKS true) (nrmZ true eS) jv=true:=aQ nrmK_0 (aQ nrmK_1 (aQ nrmK_2 (aQ nrmK_3 (aQ nrmK_4 (aQ nrmK_5 nrmK_6)))))
theorem nrmQ_all:aj opS tSt (fun _=>nrmLeaf gO FS false) (nrmZ false eS) dD=true:=by
 rw [fp]
 exact aQ nrmQ_A nrmQ_B
/-- A state that is normal. -/
structure NrmS (coh:Bool) (S:Int):Prop where
 p:nrmP coh fun j=>dgN (D3 j) S j
 d:0<=N3 S
theorem eS_nrm{coh:Bool}{ρ:Env}(h:NrmS coh (ρ.i 90)):(nrmD coh eS).holds ρ:=nrmD_iff.2 h.p
theorem step_nrmN{G:Nat->Int->Int->Int->Int}(hP:gg G){coh:Bool}{F:Fns}(hk:7<F.KR/\7<F.KV)(hF:F.vars=[0,90])(h: ∀ρ:Env,ρ.std G gh->NrmS coh (ρ.i 90)->0<=fN (ρ.i 90)->fN (ρ.i 90)<=1000000000000->nrmP coh (fun j=>(dg F (D3 j) j).ev ρ)/\0<=(dg F .i64 23).ev ρ)(M S:Int)(hS:NrmS coh S)(h0:0<=fN S)(h1:fN S<=1000000000000):NrmS coh (G F.KR (pk2 M S) 0 0):=by
 have hx:F.x.ev (qq G M S)=pk2 M S:=by
  unfold Fns.x
  rw [hF,jl hP]
  rfl
 have e: ∀(k:IntKind) (j:Nat),(dg F k j).ev (qq G M S)=dgN k (G F.KR (pk2 M S) 0 0) j:=fun k j=>by
  show k.wrap (ag (fnI _ F.KR (F.x.ev _) 0 0) _)=_
  rw [hx,bY hk.1]
  rfl
 obtain ⟨q1,q2⟩:=h (qq G M S) ⟨rfl,rfl⟩ hS h0 h1
 rw [e] at q2
 exact ⟨nrmP_congr (fun j _=>e (D3 j) j) q1,q2⟩
theorem stKinds_at: ∀j,j<24->aW[j]? =some (D3 j)
 |0,_=>rfl
 |1,_=>rfl
 |2,_=>rfl
 |3,_=>rfl
 |4,_=>rfl
 |5,_=>rfl
 |6,_=>rfl
 |7,_=>rfl
 |8,_=>rfl
 |9,_=>rfl
 |10,_=>rfl
 |11,_=>rfl
 |12,_=>rfl
 |13,_=>rfl
 |14,_=>rfl
 |15,_=>rfl
 |16,_=>rfl
 |17,_=>rfl
 |18,_=>rfl
 |19,_=>rfl
 |20,_=>rfl
 |21,_=>rfl
 |22,_=>rfl
 |23,_=>rfl
 |j+24,h=>absurd h (by omega)
section
variable{G:Nat->Int->Int->Int->Int}(hP:gg G){F R:Fns}(hFx:F.vars=[0,90])(hRx:R.vars=[0,90,2,3])(hk:7<F.KR/\7<F.KV)(hR:R.Def G (jQ F).rt)
include hP hFx hRx hk hR
theorem run_done_dig{M S d w:Int}{l:List Int}(h:R.is G (pk4 M S d w) (qm S aW 0++l)){j:Nat}(hj:j<24):dgN (D3 j) (G R.KR (pk4 M S d w) 0 0) j=dgN (D3 j) S j:=by
 refine WA hP hFx hRx hk hR h (k:=D3 j) (j:=j) (v:=ag S j) ?_
 have:=ER (S:=S) (j:=0) (stKinds_at j hj)
 rw [List.getElem?_append_left (by rw [uH]; exact hj),this,Nat.zero_add]
 rfl
theorem run_nrm{coh:Bool}(hs: ∀M S,NrmS coh S->0<=fN S->fN S<=1000000000000->NrmS coh (G F.KR (pk2 M S) 0 0))(hc: ∀M S,dgN .u8 (G F.KR (pk2 M S) 0 0) 24=0->fN (G F.KR (pk2 M S) 0 0)=IntKind.i64.wrap (fN S+1)): ∀(n:Nat) (M S d w:Int),w-d<=n->NrmS coh S->0<=fN S->fN S+n<=1000000000000->NrmS coh (G R.KR (pk4 M S d w) 0 0):=by
 have fin: ∀ {M S d w:Int} {l:List Int},NrmS coh S->R.is G (pk4 M S d w) (qm S aW 0++l)->NrmS coh (G R.KR (pk4 M S d w) 0 0):=fun hS h=>
  ⟨nrmP_congr (fun j hj=>(run_done_dig hP hFx hRx hk hR h hj).symm) hS.p,by
   have:=run_done_dig hP hFx hRx hk hR h (j:=23) (by decide)
   have e:N3 (G R.KR (pk4 _ _ _ _) 0 0)=N3 _:=this
   rw [e]
   exact hS.d⟩
 intro n
 induction n with
 |zero=>
  intro M S d w hn hS h0 h1
  have h:=run_eq hP hFx hRx hk hR M S d w
  rw [decide_eq_false (show ¬d<w by omega)] at h
  split at h
  ·exact fin hS h
  ·exact fin hS h
  ·rename_i hc _; cases hc
  ·rename_i hc _; cases hc
 |succ n ih=>
  intro M S d w hn hS h0 h1
  have h:=run_eq hP hFx hRx hk hR M S d w
  split at h
  ·exact fin hS h
  ·exact fin hS h
  ·rename_i _ hdw h24
   have hdw:=of_decide_eq_true hdw
   have h24:=of_decide_eq_true h24
   have e:=hc M S h24
   rw [wrap64 (by omega) (by omega)] at e
   rw [h.1]
   exact ih _ _ _ _ (by omega) (hs M S hS h0 (by omega)) (by omega) (by omega)
  ·exact fin hS h
end
section
variable{G:Nat->Int->Int->Int->Int}(hG:RunG G)
include hG
theorem nrmK_step: ∀M S,NrmS true S->0<=fN S->fN S<=1000000000000->NrmS true (G FKS.KR (pk2 M S) 0 0):=
 step_nrmN hG.rH (by decide) rfl fun ρ h1 h h0 h9=>step_nrm (c:=da) (l:=jv) (by decide) Ib nrmK_all (fun i lo hi h=>by cases h) (rT hG.k h1) (by rw [h1.1]; exact hG.ks) hG.made.base h1 (eS_nrm h) h0 h9 h.d
theorem nrmQ_step: ∀M S,NrmS false S->0<=fN S->fN S<=1000000000000->NrmS false (G FS.KR (pk2 M S) 0 0):=
 step_nrmN hG.rH (by decide) rfl fun ρ h1 h h0 h9=>step_nrm (c:=gO) (l:=dD) (by decide) Xe nrmQ_all (fun i lo hi h=>by cases h) wv (by rw [h1.1]; exact hG.s) hG.made.base h1 (eS_nrm h) h0 h9 h.d
/-- A machine's run, as a board makes it. -/
theorem runB_nrm{ρ:Env}(h1:ρ.std G gh)(coh:Bool)(hw:ρ.i 3<=10000)(hn:NrmS coh (ρ.i 90))(h0:0<=fN (ρ.i 90))(h9:fN (ρ.i 90)<=900000000000):nrmP coh (fun j=>(eR coh j).ev ρ)/\0<=(eR coh 23).ev ρ:=by
 have hPρ:gg ρ.g:=by rw [h1.1]; exact hG.rH
 have key: ∀R:Fns,7<R.KR->NrmS coh (G R.KR (pk4 (ρ.i 0) (ρ.i 90) 0 (ρ.i 3)) 0 0)->nrmP coh (fun j=>(dX R.KR x0 (D3 j) j).ev ρ)/\0<=(dX R.KR x0 (D3 23) 23).ev ρ:=fun R hR hN=>by
  have e: ∀(k:IntKind) (j:Nat),(dX R.KR x0 k j).ev ρ=dgN k (G R.KR (pk4 (ρ.i 0) (ρ.i 90) 0 (ρ.i 3)) 0 0) j:=fun k j=>by
   show k.wrap (ag (fnI ρ R.KR (x0.ev ρ) 0 0) _)=_
   rw [Ws hPρ,bY hR,h1.1]
   rfl
  exact ⟨nrmP_congr (fun j _=>(e (D3 j) j).symm) hN.p,by rw [e]; exact hN.d⟩
 have hw':ρ.i 3-0<=((10000:Nat):Int):=by omega
 cases coh
 ·exact key FR (by decide) (run_nrm hG.rH rfl rfl (by decide) hG.r (nrmQ_step hG) (Zb hG.rH hG.s) 10000 _ _ _ _ hw' hn h0 (by omega))
 ·exact key FRK (by decide) (run_nrm hG.rH rfl rfl (by decide) hG.rk (nrmK_step hG) (aa2 hG.rH hG.k hG.ks) 10000 _ _ _ _ hw' hn h0 (by omega))
omit hG in
/-- A state that is set is normal. -/
theorem set_nrm{coh:Bool}{e:Nat->IE}(hf:og coh e=true)(hr:nt coh e=fJ 0 (.lit 0) ((List.range 24).map (xz coh e)))(ρ:Env):NrmS coh ((nt coh e).ev ρ):=by
 have dig: ∀j,j<24->dgN (D3 j) ((nt coh e).ev ρ) j=(xz coh e j).ev ρ:=fun j hj=>ac0 hf hr hj
 have d23:N3 ((nt coh e).ev ρ)=(xz coh e 23).ev ρ:=dig 23 (by decide)
 have p:nrmP coh fun j=>(xz coh e j).ev ρ:=by
  cases coh
  ·exact ⟨rfl,rfl⟩
  ·refine ⟨?_,fun j hj=> ?_⟩
   ·have hb:kLo .u32<=(xz true e 17).ev ρ/\(xz true e 17).ev ρ<=kHi .u32:=yX hf (by decide)
    have hr:=bD (ρ:=ρ) (bd:=fun _=>none) (fun i lo hi h=>by cases h) (xz true e 17) 0 15 rfl
    show ((xz true e 17).ev ρ).tmod 16=(xz true e 17).ev ρ
    exact pV hr.1 (by omega)
   ·match j,hj with
    |0,_=>rfl
    |1,_=>rfl
    |2,_=>rfl
    |3,_=>rfl
    |4,_=>rfl
    |5,_=>rfl
    |6,_=>rfl
    |7,_=>rfl
 refine ⟨nrmP_congr (fun j hj=>(dig j hj).symm) p,?_⟩
 rw [d23]
 have:xz coh e 23=mx0 (e 23):=by cases coh<;>rfl
 rw [this,adn]
 omega
/-- What a board's run leaves is normal. -/
def NInv(G:Nat->Int->Int->Int->Int)(coh:Bool)(ρ:Env)(X:Int):Prop:=
 NrmS coh (ρ.i 90)->0<=ρ.i 3->0<=fN (ρ.i 90)->fN (ρ.i 90)+ρ.i 3<=800000000000->nrmP coh (fun j=>DX G (FB coh) X (D3 j) j)/\0<=DX G (FB coh) X .i64 23
theorem board_ninv(coh:Bool): ∀ρ:Env,ρ.std G gh->Okb ρ->NInv G coh ρ ((FB coh).x.ev ρ):=by
 refine NL hG (coh:=coh) (P:=fun ρ=>NInv G coh ρ ((FB coh).x.ev ρ)) (fun ρ r h1 h2 h3 hw hn hs=> ?_) fun ρ r σ kk h1 h2 h3 hw hn ha h4 h5 h6 ih=> ?_
 ·intro z0 z1 z2 z3
  have fin: ∀(v:Nat->IE) (l:List IE),(FB coh).is G ((FB coh).x.ev ρ) (((List.range 24).map v++l).map (·.ev ρ))->(∀ j,j<24->kLo (D3 j)<=(v j).ev ρ/\(v j).ev ρ<=kHi (D3 j))->nrmP coh (fun j=>(v j).ev ρ)/\0<=(v 23).ev ρ->nrmP coh (fun j=>DX G (FB coh) ((FB coh).x.ev ρ) (D3 j) j)/\0<=DX G (FB coh) ((FB coh).x.ev ρ) .i64 23:=fun v l hs hb hv=>by
   have e: ∀j,j<24->DX G (FB coh) ((FB coh).x.ev ρ) (D3 j) j=(v j).ev ρ:=fun j hj=>by
    refine C6 hs ?_ (hb j hj).1 (hb j hj).2
    rw [List.map_append,List.getElem?_append_left (by simpa using hj),List.getElem?_map,List.getElem?_map,List.getElem?_range hj]
    rfl
   refine ⟨nrmP_congr (fun j hj=>(e j hj).symm) hv.1,?_⟩
   have:=e 23 (by decide)
   have this:DX G (FB coh) ((FB coh).x.ev ρ) .i64 23=(v 23).ev ρ:=this
   rw [this]
   exact hv.2
  have hb: ∀j,j<24->kLo (D3 j)<=(eR coh j).ev ρ/\(eR coh j).ev ρ<=kHi (D3 j):=fun j _=>wrap_mem (D3 j) _
  cases r with
  |A=>
   refine fin eS [.var 0,.var 28,bL,.var 41,kG,.var 43,.lit 0,.lit 0,.var 40,.var 42] ?_ (fun j _=>wrap_mem (D3 j) _) ⟨z0.p,z0.d⟩
   have e:(List.range 24).map eS=stE (.var 90):=rfl
   rw [e]
   exact hs
  |L=>exact fin (eR coh) [fS coh,.var 28,bL,.var 41,kG,.var 43,.lit 0,.lit 0,.var 40,.var 42] hs hb (runB_nrm hG h1 coh h2.l.2 z0 z2 (by omega))
  |S=>exact fin (eR coh) [fS coh,.var 28,bL,.var 41,.lit 1,up 43,.lit 0,.lit 0,.var 40,nk coh (tiE coh) (.lit 0)] hs hb (runB_nrm hG h1 coh h2.l.2 z0 z2 (by omega))
  |_=>cases hn
 ·intro z0 z1 z2 z3
  have hl:=h2.l
  have hk0:=h3.k0
  have off:(dR coh .i64 22).ev ρ=fN (ρ.i 90)+kk:=wrap64_off (wrap_mem .i64 _) ⟨z2,by omega⟩ ⟨hk0.1,by omega⟩ h3.k
  have go: ∀s1 l1:Int,fN ((ρ.rep σ).i 90)=s1->(ρ.rep σ).i 3=l1->NrmS coh ((ρ.rep σ).i 90)->0<=l1->s1+l1=fN (ρ.i 90)+ρ.i 3->fN (ρ.i 90)<=s1->nrmP coh (fun j=>DX G (FB coh) ((FB coh).x.ev ρ) (D3 j) j)/\0<=DX G (FB coh) ((FB coh).x.ev ρ) .i64 23:=fun s1 l1 q1 q2 qnrm q3 q4 q5=>by
   have:=ih qnrm (by rw [q2]; exact q3) (by rw [q1]; omega) (by rw [q1,q2]; omega)
   refine ⟨nrmP_congr (fun j _=>(iM ha (D3 j) j).symm) this.1,?_⟩
   rw [iM ha]
   exact this.2
  have skip: ∀ {r:Rnd},r∈[Rnd.d1,.d2,.d5,.d3]->fN ((nt coh (zG coh (abr coh r))).ev ρ)=fN (ρ.i 90)+kk+1:=fun {r} hr=>by
   have h:=ac0 (YD coh hr) (Zo coh _) (ρ:=ρ) (j:=22) (by decide)
   have e:(xz coh (zG coh (abr coh r)) 22).ev ρ=max (IntKind.i64.wrap ((dR coh .i64 22).ev ρ+1)) 0:=by
    have:xz coh (zG coh (abr coh r)) 22=mx0 (.wrap .i64 (.add (eR coh 22) (.lit 1))):=by cases coh<;>rfl
    rw [this,adn]
    rfl
   rw [e,off,wrap64 (by omega) (by omega)] at h
   have h:fN _=_:=h
   rw [h]
   omega
  have e2:=h3.gM
  have e1:=h3.left
  have dvz: ∀ {r:Rnd},r∈[Rnd.d1,.d2,.d5,.d3]-> ¬(cy coh).ev ρ<1->(ρ.rep σ).i 90=(nt coh (zG coh (abr coh r))).ev ρ->(ρ.rep σ).i 3=(gM coh).ev ρ->nrmP coh (fun j=>DX G (FB coh) ((FB coh).x.ev ρ) (D3 j) j)/\0<=DX G (FB coh) ((FB coh).x.ev ρ) .i64 23:=fun hr w q1 q2=>by
   rw [e1] at w
   exact go (fN (ρ.i 90)+kk+1) (ρ.i 3-kk-1) (by rw [q1]; exact skip hr) (by rw [q2]; exact e2) (by rw [q1]; exact set_nrm (YD coh hr) (Zo coh _) ρ) (by omega) (by omega) (by omega)
  cases r with
  |d1=>cases hn; exact dvz (r:= .d1) (by simp) hw.2.2.1 rfl rfl
  |d2=>cases hn; exact dvz (r:= .d2) (by simp) hw.2.2.1 rfl rfl
  |d5=>cases hn; exact dvz (r:= .d5) (by simp) hw.2.2.1 rfl rfl
  |d3=>cases hn; exact dvz (r:= .d3) (by simp) hw.2.2.1 rfl rfl
  |D=>
   cases hn
   have w:=hw.2.2.1
   rw [e1] at w
   refine go (fN (ρ.i 90)+kk) (ρ.i 3-kk) ?_ e1 (set_nrm (YJ coh) (acz coh) ρ) (by omega) (by omega) (by omega)
   have h:=ac0 (YJ coh) (acz coh) (ρ:=ρ) (j:=22) (by decide)
   have e:(xz coh (N5 coh) 22).ev ρ=max ((dR coh .i64 22).ev ρ) 0:=by
    have:xz coh (N5 coh) 22=mx0 (eR coh 22):=by cases coh<;>rfl
    rw [this,adn]
    rfl
   rw [e,off] at h
   have h:fN ((nt coh (N5 coh)).ev ρ)=_:=h
   show fN ((nt coh (N5 coh)).ev ρ)=_
   rw [h]
   omega
  |_=>cases hn
end
end
end Go.Proofs.YtbhlmedfhilkbaaGreat
namespace Go.Proofs.YtbhlmedfhilkbaaGreat
open Go Go.Sx
set_option maxRecDepth 1000000
noncomputable section
theorem reps_a:rRep true true=true:=by kernel_rfl
end
end Go.Proofs.YtbhlmedfhilkbaaGreat
namespace Go.Proofs.YtbhlmedfhilkbaaGreat
open Go Go.Sx
set_option maxRecDepth 1000000
noncomputable section
theorem reps_b:rRep true false=true:=by kernel_rfl
end
end Go.Proofs.YtbhlmedfhilkbaaGreat
namespace Go.Proofs.YtbhlmedfhilkbaaGreat
open Go Go.Sx
set_option maxRecDepth 1000000
noncomputable section
theorem reps_c:rRep false true=true:=by kernel_rfl
end
end Go.Proofs.YtbhlmedfhilkbaaGreat
namespace Go.Proofs.YtbhlmedfhilkbaaGreat
open Go Go.Sx
set_option maxRecDepth 1000000
noncomputable section
theorem reps_d:rRep false false=true:=by kernel_rfl
end
end Go.Proofs.YtbhlmedfhilkbaaGreat
namespace Go.Proofs.YtbhlmedfhilkbaaGreat
open Go Go.Sx
set_option maxRecDepth 1000000
noncomputable section
theorem kLr_wf:([true,false].all fun coh=>[true,false].all fun l=>(kLr coh l).cons.all Con.wf)=true:=by kernel_rfl
theorem allR{f:Bool->Bool->Bool}(h:([true,false].all fun a=>[true,false].all fun b=>f a b)=true)(a b:Bool):f a b=true:=
 List.all_eq_true.1 (List.all_eq_true.1 h a (by cases a<;>simp)) b (by cases b<;>simp)
theorem reps_all: ∀coh l,rRep coh l=true
 |true,true=>reps_a
 |true,false=>reps_b
 |false,true=>reps_c
 |false,false=>reps_d
section
variable{G:Nat->Int->Int->Int->Int}
theorem cMachN_ok(hB:cX G)(coh:Bool):(cMachN coh).Ok PR G gh:=by
 have h:=machN_run
 have m:=Ez
 simp only [Bool.and_eq_true] at h m
 cases coh
 ·exact bA (bB m.2.2.2.2.2 (aJ (E3 hB) (aJ (EG hB) (aJ (MP hB) (aJ (yD hB) dj))))) h.2.1
 ·exact bA (bB m.2.2.2.2.1 (aJ (E3 hB) (aJ (EG hB) (aJ (N4 hB) (aJ (yD hB) dj))))) h.1
variable(hG:LawG G)
include hG
theorem kLr_ok(coh l:Bool):(kLr coh l).Ok PR G gh:=by
 have w:=allR kLr_wf coh l
 have hB:=hG.made.base
 cases coh
 ·exact bB w (aJ ZL (aJ (Ec hG false l).2 (aJ (W5 hG.toRunG).2 (aJ (Tv hG.toRunG).2 (aJ (cMachN_ok hB false) (aJ (Au hB false).2 (aJ yo.2 dj)))))))
 ·exact bB w (aJ ZL (aJ (Ec hG true l).2 (aJ (XH hG.toRunG).2 (aJ (TN hG.toRunG).2 (aJ (cMachN_ok hB true) (aJ (Au hB true).2 (aJ yo.2 dj)))))))
/-- The state that is laid is normal. -/
theorem row_nrm{ρ:Env}(h1:ρ.std G gh)(coh:Bool):NrmS coh ((rowL coh).ev ρ):=by
 have h:(FL1 coh).is G ((FL1 coh).x.ev ρ) ((acq coh++[mK coh]).map (·.ev ρ)):=Kp hG coh ρ h1.1
 have er: ∀(k:IntKind) (j:Nat),dgN k ((rowL coh).ev ρ) j=DX G (FL1 coh) ((FL1 coh).x.ev ρ) k j:=fun k j=>by
  show k.wrap (ag (fnI ρ (FL1 coh).KR ((FL1 coh).x.ev ρ) 0 0) _)=_
  rw [bY (by cases coh<;>decide),h1.1]
  rfl
 have z: ∀(k:IntKind) (j:Nat),((acq coh++[mK coh]).map (·.ev ρ))[j]? =some 0->dgN k ((rowL coh).ev ρ) j=0:=fun k j hj=>by
  rw [er]
  exact C6 h hj (by cases k<;>decide) (by cases k<;>decide)
 constructor
 ·cases coh
  ·exact ⟨z _ 1 rfl,z _ 17 rfl⟩
  ·refine ⟨?_,fun j hj=> ?_⟩
   ·have:=z .u32 17 rfl
    show (dgN .u32 ((rowL true).ev ρ) 17).tmod 16=dgN .u32 ((rowL true).ev ρ) 17
    rw [this]
    rfl
   ·match j,hj with
    |0,_=>exact z .u32 9 rfl
    |1,_=>exact z .u32 10 rfl
    |2,_=>exact z .u32 11 rfl
    |3,_=>exact z .u32 12 rfl
    |4,_=>exact z .u32 13 rfl
    |5,_=>exact z .u32 14 rfl
    |6,_=>exact z .u32 15 rfl
    |7,_=>exact z .u32 16 rfl
 ·obtain ⟨x,hx,hb⟩: ∃x:Int,((acq coh++[mK coh]).map (·.ev ρ))[23]? =some x/\0<=x/\x<=124:=by
   have key: ∀e:IE,0<=e.ev ρ->0<=(IE.rem e (.lit 125)).ev ρ/\(IE.rem e (.lit 125)).ev ρ<=124:=fun e h0=>by
    show 0<=(e.ev ρ).tmod 125/\(e.ev ρ).tmod 125<=124
    rw [Int.tmod_eq_emod_of_nonneg h0]
    omega
   cases coh
   ·exact ⟨_,rfl,key (dg FLQ .u8 29) (wrap_mem .u8 _).1⟩
   ·exact ⟨_,rfl,key (dg FLK .u8 29) (wrap_mem .u8 _).1⟩
  have:=C6 h hx (k:= .i64) (show (-9223372036854775808:Int)<=x by omega) (show x<=9223372036854775807 by omega)
  show 0<=dgN .i64 ((rowL coh).ev ρ) 23
  rw [er,this]
  exact hb.1
/-- A first run leaves a normal state. -/
theorem nrmF_ok{ρ:Env}(h1:ρ.std G gh)(h2:ρ.ok (bdL D8)){coh l:Bool}(hl:(many l).1.ev ρ=(many l).2){w:IE}(hw:0<=w.ev ρ/\w.ev ρ<=1000):(nrmF coh l w).holds ρ:=by
 obtain ⟨ho,_⟩:=okbL (w:=w) h2 hl hw
 have hs:=stpL hG h1 coh
 have hc:=board_cinv hG.toRunG coh (ρ.rep (σL coh l w)) h1 ho
 have hn:=board_ninv hG.toRunG coh (ρ.rep (σL coh l w)) h1 ho
 rw [xLaw_rep] at hc hn
 have hc:=(hc rfl hw.1 hs.1 (show fN ((rowL coh).ev ρ)+w.ev ρ<=1000000000000 by omega)).2
 have hc:fN ((rowL coh).ev ρ)<=DX G (FB coh) ((xLaw coh l w).ev ρ) .i64 22:=hc
 obtain ⟨n1,n2⟩:=hn (row_nrm hG h1 coh) hw.1 hs.1 (show fN ((rowL coh).ev ρ)+w.ev ρ<=800000000000 by omega)
 refine bJ (nrmD_iff.2 (nrmP_congr (fun j _=>(dLaw_ev h1 coh l w (D3 j) j).symm) n1)) (ak (decide_eq_false ?_) (ak (decide_eq_false ?_) aw))
 ·show ¬(dLaw coh l w .i64 22).ev ρ<0
  rw [dLaw_ev h1]
  omega
 ·show ¬(dLaw coh l w .i64 23).ev ρ<0
  rw [dLaw_ev h1]
  omega
theorem reps_ok:(Ti 10).Ok PR G gh:=ac2 hG fun coh l ρ h1 h2 h3=>by
 have h3': ∀p∈is2 coh::many l::(hd6 coh++(hdL coh++[])),p.1.ev ρ=p.2:=h3
 have hl:(many l).1.ev ρ=(many l).2:=h3' _ (List.mem_cons_of_mem _ (List.mem_cons_self ..))
 have hm:0<=w40.ev ρ/\w40.ev ρ<40:=Yu (ρ.i 20) (m:=40) 40 rfl (by decide)
 have hf:=nrmF_ok hG h1 h2 (coh:=coh) hl (w:=w40) ⟨hm.1,by omega⟩
 refine bA (kLr_ok hG coh l) (reps_all coh l) ρ h1 h2 (show ∀p∈is2 coh::many l::(hd6 coh++(hdL coh++nrmF coh l w40)),p.1.ev ρ=p.2 from fun p hp=> ?_)
 simp only [List.append_nil,List.mem_cons,List.mem_append] at hp h3'
 rcases hp with rfl |rfl |hp |hp |hp
 ·exact h3' _ (.inl rfl)
 ·exact h3' _ (.inr (.inl rfl))
 ·exact h3' _ (.inr (.inr (.inl hp)))
 ·exact h3' _ (.inr (.inr (.inr hp)))
 ·exact hf p hp
end
end
end Go.Proofs.YtbhlmedfhilkbaaGreat

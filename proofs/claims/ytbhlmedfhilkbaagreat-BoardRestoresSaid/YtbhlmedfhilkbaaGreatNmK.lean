/- Part NmK. No condition. -/
import Derived.Test.YtbhlmedfhilkbaaGreatBi3
set_option linter.all false
namespace Go.Proofs.YtbhlmedfhilkbaaGreat
open Go Go.Sx
set_option maxRecDepth 1000000
noncomputable section
theorem am1:aj kj tKs (fun _=>afy da FKS true) (agv true eS) (bm 0)=true:=by kernel_rfl
theorem am0:aj kj tKs (fun _=>afy da FKS true) (agv true eS) (bm 1)=true:=by kernel_rfl
theorem anf:aj kj tKs (fun _=>afy da FKS true) (agv true eS) (bm 2)=true:=by kernel_rfl
theorem ams:aj kj tKs (fun _=>afy da FKS true) (agv true eS) (bm 3)=true:=by kernel_rfl
theorem am6:aj kj tKs (fun _=>afy da FKS true) (agv true eS) (bm 4)=true:=by kernel_rfl
theorem am3:aj kj tKs (fun _=>afy da FKS true) (agv true eS) (bm 5)=true:=by kernel_rfl
theorem am9:aj kj tKs (fun _=>afy da FKS true) (agv true eS) (bm 6)=true:=by kernel_rfl
theorem amt:aj opS tSt (fun _=>afy gO FS false) (agv false eS) BK=true:=by kernel_rfl
theorem amx:aj opS tSt (fun _=>afy gO FS false) (agv false eS) x8=true:=by kernel_rfl
theorem als:aj kj tKs (fun _=>afy da FKS true) (agv true eS) jv=true:=aQ am1 (aQ am0 (aQ anf (aQ ams (aQ am6 (aQ am3 am9)))))
theorem alk:aj opS tSt (fun _=>afy gO FS false) (agv false eS) dD=true:=by
 rw [fp];exact aQ amt amx
structure NrmS (coh:Bool) (S:Int):Prop where
 p:ajf coh fun j=>dgN (D3 j) S j
 d:0<=N3 S
theorem aku{coh:Bool}{ρ:Env}(h:NrmS coh (ρ.i 90)):(ak1 coh eS).holds ρ:=ahi.2 h.p
theorem ajc{G:Nat->Int->Int->Int->Int}(hP:gg G){coh:Bool}{F:Fns}(hk:7<F.KR/\7<F.KV)(hF:F.vars=[0,90])(h: ∀ρ:Env,ρ.std G gh->NrmS coh (ρ.i 90)->0<=fN (ρ.i 90)->fN (ρ.i 90)<=1000000000000->ajf coh (fun j=>(dg F (D3 j) j).ev ρ)/\0<=(dg F .i64 23).ev ρ)(M S:Int)(hS:NrmS coh S)(h0:0<=fN S)(h1:fN S<=1000000000000):NrmS coh (G F.KR (pk2 M S) 0 0):=by
 have hx:F.x.ev (qq G M S)=pk2 M S:=by
  unfold Fns.x;rw [hF,jl hP];rfl
 have e: ∀(k:IntKind) (j:Nat),(dg F k j).ev (qq G M S)=dgN k (G F.KR (pk2 M S) 0 0) j:=fun k j=>by
  show k.wrap (ag (fnI _ F.KR (F.x.ev _) 0 0) _)=_;rw [hx,bY hk.1];rfl
 obtain ⟨q1,q2⟩:=h (qq G M S) ⟨rfl,rfl⟩ hS h0 h1;rw [e] at q2;exact ⟨ae6 (fun j _=>e (D3 j) j) q1,q2⟩
theorem aen: ∀j,j<24->aW[j]? =some (D3 j)
 |0,_=>rfl
 |1,_=>rfl
 |2,_=>rfl
 |3,_=>rfl
 |4,_=>rfl
 |5,_=>rfl
 |6,_=>rfl
 |7,_=>rfl
 |8,_=>rfl
 |9,_=>rfl
 |10,_=>rfl
 |11,_=>rfl
 |12,_=>rfl
 |13,_=>rfl
 |14,_=>rfl
 |15,_=>rfl
 |16,_=>rfl
 |17,_=>rfl
 |18,_=>rfl
 |19,_=>rfl
 |20,_=>rfl
 |21,_=>rfl
 |22,_=>rfl
 |23,_=>rfl
 |j+24,h=>absurd h (by omega)
section
variable{G:Nat->Int->Int->Int->Int}(hP:gg G){F R:Fns}(hFx:F.vars=[0,90])(hRx:R.vars=[0,90,2,3])(hk:7<F.KR/\7<F.KV)(hR:R.Def G (jQ F).rt)
include hP hFx hRx hk hR
theorem aga{M S d w:Int}{l:List Int}(h:R.is G (pk4 M S d w) (qm S aW 0++l)){j:Nat}(hj:j<24):dgN (D3 j) (G R.KR (pk4 M S d w) 0 0) j=dgN (D3 j) S j:=by
 refine WA hP hFx hRx hk hR h (k:=D3 j) (j:=j) (v:=ag S j) ?_;have:=ER (S:=S) (j:=0) (aen j hj);rw [List.getElem?_append_left (by rw [uH]; exact hj),this,Nat.zero_add]
 rfl
theorem aj9{coh:Bool}(hs: ∀M S,NrmS coh S->0<=fN S->fN S<=1000000000000->NrmS coh (G F.KR (pk2 M S) 0 0))(hc: ∀M S,dgN .u8 (G F.KR (pk2 M S) 0 0) 24=0->fN (G F.KR (pk2 M S) 0 0)=IntKind.i64.wrap (fN S+1)): ∀(n:Nat) (M S d w:Int),w-d<=n->NrmS coh S->0<=fN S->fN S+n<=1000000000000->NrmS coh (G R.KR (pk4 M S d w) 0 0):=by
 have fin: ∀ {M S d w:Int} {l:List Int},NrmS coh S->R.is G (pk4 M S d w) (qm S aW 0++l)->NrmS coh (G R.KR (pk4 M S d w) 0 0):=fun hS h=>
  ⟨ae6 (fun j hj=>(aga hP hFx hRx hk hR h hj).symm) hS.p,by
   have:=aga hP hFx hRx hk hR h (j:=23) (by decide)
   have e:N3 (G R.KR (pk4 _ _ _ _) 0 0)=N3 _:=this;rw [e];exact hS.d⟩
 intro n
 induction n with
 |zero=>
  intro M S d w hn hS h0 h1;have h:=run_eq hP hFx hRx hk hR M S d w;rw [decide_eq_false (show ¬d<w by omega)] at h
  split at h
  ·exact fin hS h
  ·exact fin hS h
  ·rename_i hc _; cases hc
  ·rename_i hc _; cases hc
 |succ n ih=>
  intro M S d w hn hS h0 h1;have h:=run_eq hP hFx hRx hk hR M S d w;split at h
  ·exact fin hS h
  ·exact fin hS h
  ·rename_i _ hdw h24;have hdw:=of_decide_eq_true hdw;have h24:=of_decide_eq_true h24;have e:=hc M S h24;rw [wrap64 (by omega) (by omega)] at e
   rw [h.1];exact ih _ _ _ _ (by omega) (hs M S hS h0 (by omega)) (by omega) (by omega)
  ·exact fin hS h
end
section
variable{G:Nat->Int->Int->Int->Int}(hG:RunG G)
include hG
theorem akm: ∀M S,NrmS true S->0<=fN S->fN S<=1000000000000->NrmS true (G FKS.KR (pk2 M S) 0 0):=
 ajc hG.rH (by decide) rfl fun ρ h1 h h0 h9=>aju (c:=da) (l:=jv) (by decide) Ib als (fun i lo hi h=>by cases h) (rT hG.k h1) (by rw [h1.1]; exact hG.ks) hG.made.base h1 (aku h) h0 h9 h.d
theorem aks: ∀M S,NrmS false S->0<=fN S->fN S<=1000000000000->NrmS false (G FS.KR (pk2 M S) 0 0):=
 ajc hG.rH (by decide) rfl fun ρ h1 h h0 h9=>aju (c:=gO) (l:=dD) (by decide) Xe alk (fun i lo hi h=>by cases h) wv (by rw [h1.1]; exact hG.s) hG.made.base h1 (aku h) h0 h9 h.d
theorem ajv{ρ:Env}(h1:ρ.std G gh)(coh:Bool)(hw:ρ.i 3<=10000)(hn:NrmS coh (ρ.i 90))(h0:0<=fN (ρ.i 90))(h9:fN (ρ.i 90)<=900000000000):ajf coh (fun j=>(eR coh j).ev ρ)/\0<=(eR coh 23).ev ρ:=by
 have hPρ:gg ρ.g:=by rw [h1.1]; exact hG.rH
 have key: ∀R:Fns,7<R.KR->NrmS coh (G R.KR (pk4 (ρ.i 0) (ρ.i 90) 0 (ρ.i 3)) 0 0)->ajf coh (fun j=>(dX R.KR x0 (D3 j) j).ev ρ)/\0<=(dX R.KR x0 (D3 23) 23).ev ρ:=fun R hR hN=>by
  have e: ∀(k:IntKind) (j:Nat),(dX R.KR x0 k j).ev ρ=dgN k (G R.KR (pk4 (ρ.i 0) (ρ.i 90) 0 (ρ.i 3)) 0 0) j:=fun k j=>by
   show k.wrap (ag (fnI ρ R.KR (x0.ev ρ) 0 0) _)=_;rw [Ws hPρ,bY hR,h1.1];rfl
  exact ⟨ae6 (fun j _=>(e (D3 j) j).symm) hN.p,by rw [e]; exact hN.d⟩
 have hw':ρ.i 3-0<=((10000:Nat):Int):=by omega
 cases coh
 ·exact key FR (by decide) (aj9 hG.rH rfl rfl (by decide) hG.r (aks hG) (Zb hG.rH hG.s) 10000 _ _ _ _ hw' hn h0 (by omega))
 ·exact key FRK (by decide) (aj9 hG.rH rfl rfl (by decide) hG.rk (akm hG) (aa2 hG.rH hG.k hG.ks) 10000 _ _ _ _ hw' hn h0 (by omega))
omit hG in
theorem akf{coh:Bool}{e:Nat->IE}(hf:og coh e=true)(hr:nt coh e=fJ 0 (.lit 0) ((List.range 24).map (xz coh e)))(ρ:Env):NrmS coh ((nt coh e).ev ρ):=by
 have dig: ∀j,j<24->dgN (D3 j) ((nt coh e).ev ρ) j=(xz coh e j).ev ρ:=fun j hj=>ac0 hf hr hj
 have d23:N3 ((nt coh e).ev ρ)=(xz coh e 23).ev ρ:=dig 23 (by decide)
 have p:ajf coh fun j=>(xz coh e j).ev ρ:=by
  cases coh
  ·exact ⟨rfl,rfl⟩
  ·refine ⟨?_,fun j hj=> ?_⟩
   ·have hb:kLo .u32<=(xz true e 17).ev ρ/\(xz true e 17).ev ρ<=kHi .u32:=yX hf (by decide)
    have hr:=bD (ρ:=ρ) (bd:=fun _=>none) (fun i lo hi h=>by cases h) (xz true e 17) 0 15 rfl
    show ((xz true e 17).ev ρ).tmod 16=(xz true e 17).ev ρ;exact pV hr.1 (by omega)
   ·match j,hj with
    |0,_=>rfl
    |1,_=>rfl
    |2,_=>rfl
    |3,_=>rfl
    |4,_=>rfl
    |5,_=>rfl
    |6,_=>rfl
    |7,_=>rfl
 refine ⟨ae6 (fun j hj=>(dig j hj).symm) p,?_⟩
 rw [d23];have:xz coh e 23=mx0 (e 23):=by cases coh<;>rfl
 rw [this,adn];omega
def ant(G:Nat->Int->Int->Int->Int)(coh:Bool)(ρ:Env)(X:Int):Prop:=
 NrmS coh (ρ.i 90)->0<=ρ.i 3->0<=fN (ρ.i 90)->fN (ρ.i 90)+ρ.i 3<=800000000000->ajf coh (fun j=>DX G (FB coh) X (D3 j) j)/\0<=DX G (FB coh) X .i64 23
theorem aj3(coh:Bool): ∀ρ:Env,ρ.std G gh->Okb ρ->ant G coh ρ ((FB coh).x.ev ρ):=by
 refine NL hG (coh:=coh) (P:=fun ρ=>ant G coh ρ ((FB coh).x.ev ρ)) (fun ρ r h1 h2 h3 hw hn hs=> ?_) fun ρ r σ kk h1 h2 h3 hw hn ha h4 h5 h6 ih=> ?_
 ·intro z0 z1 z2 z3
  have fin: ∀(v:Nat->IE) (l:List IE),(FB coh).is G ((FB coh).x.ev ρ) (((List.range 24).map v++l).map (·.ev ρ))->(∀ j,j<24->kLo (D3 j)<=(v j).ev ρ/\(v j).ev ρ<=kHi (D3 j))->ajf coh (fun j=>(v j).ev ρ)/\0<=(v 23).ev ρ->ajf coh (fun j=>DX G (FB coh) ((FB coh).x.ev ρ) (D3 j) j)/\0<=DX G (FB coh) ((FB coh).x.ev ρ) .i64 23:=fun v l hs hb hv=>by
   have e: ∀j,j<24->DX G (FB coh) ((FB coh).x.ev ρ) (D3 j) j=(v j).ev ρ:=fun j hj=>by
    refine C6 hs ?_ (hb j hj).1 (hb j hj).2;rw [List.map_append,List.getElem?_append_left (by simpa using hj),List.getElem?_map,List.getElem?_map,List.getElem?_range hj]
    rfl
   refine ⟨ae6 (fun j hj=>(e j hj).symm) hv.1,?_⟩
   have:=e 23 (by decide)
   have this:DX G (FB coh) ((FB coh).x.ev ρ) .i64 23=(v 23).ev ρ:=this;rw [this];exact hv.2
  have hb: ∀j,j<24->kLo (D3 j)<=(eR coh j).ev ρ/\(eR coh j).ev ρ<=kHi (D3 j):=fun j _=>wrap_mem (D3 j) _
  cases r with
  |A=>
   refine fin eS [.var 0,.var 28,bL,.var 41,kG,.var 43,.lit 0,.lit 0,.var 40,.var 42] ?_ (fun j _=>wrap_mem (D3 j) _) ⟨z0.p,z0.d⟩
   have e:(List.range 24).map eS=stE (.var 90):=rfl;rw [e];exact hs
  |L=>exact fin (eR coh) [fS coh,.var 28,bL,.var 41,kG,.var 43,.lit 0,.lit 0,.var 40,.var 42] hs hb (ajv hG h1 coh h2.l.2 z0 z2 (by omega))
  |S=>exact fin (eR coh) [fS coh,.var 28,bL,.var 41,.lit 1,up 43,.lit 0,.lit 0,.var 40,nk coh (tiE coh) (.lit 0)] hs hb (ajv hG h1 coh h2.l.2 z0 z2 (by omega))
  |_=>cases hn
 ·intro z0 z1 z2 z3;have hl:=h2.l;have hk0:=h3.k0;have off:(dR coh .i64 22).ev ρ=fN (ρ.i 90)+kk:=afi (wrap_mem .i64 _) ⟨z2,by omega⟩ ⟨hk0.1,by omega⟩ h3.k
  have go: ∀s1 l1:Int,fN ((ρ.rep σ).i 90)=s1->(ρ.rep σ).i 3=l1->NrmS coh ((ρ.rep σ).i 90)->0<=l1->s1+l1=fN (ρ.i 90)+ρ.i 3->fN (ρ.i 90)<=s1->ajf coh (fun j=>DX G (FB coh) ((FB coh).x.ev ρ) (D3 j) j)/\0<=DX G (FB coh) ((FB coh).x.ev ρ) .i64 23:=fun s1 l1 q1 q2 qnrm q3 q4 q5=>by
   have:=ih qnrm (by rw [q2]; exact q3) (by rw [q1]; omega) (by rw [q1,q2]; omega)
   refine ⟨ae6 (fun j _=>(iM ha (D3 j) j).symm) this.1,?_⟩
   rw [iM ha];exact this.2
  have skip: ∀ {r:Rnd},r∈[Rnd.d1,.d2,.d5,.d3]->fN ((nt coh (zG coh (abr coh r))).ev ρ)=fN (ρ.i 90)+kk+1:=fun {r} hr=>by
   have h:=ac0 (YD coh hr) (Zo coh _) (ρ:=ρ) (j:=22) (by decide)
   have e:(xz coh (zG coh (abr coh r)) 22).ev ρ=max (IntKind.i64.wrap ((dR coh .i64 22).ev ρ+1)) 0:=by
    have:xz coh (zG coh (abr coh r)) 22=mx0 (.wrap .i64 (.add (eR coh 22) (.lit 1))):=by cases coh<;>rfl
    rw [this,adn];rfl
   rw [e,off,wrap64 (by omega) (by omega)] at h
   have h:fN _=_:=h;rw [h];omega
  have e2:=h3.gM;have e1:=h3.left
  have dvz: ∀ {r:Rnd},r∈[Rnd.d1,.d2,.d5,.d3]-> ¬(cy coh).ev ρ<1->(ρ.rep σ).i 90=(nt coh (zG coh (abr coh r))).ev ρ->(ρ.rep σ).i 3=(gM coh).ev ρ->ajf coh (fun j=>DX G (FB coh) ((FB coh).x.ev ρ) (D3 j) j)/\0<=DX G (FB coh) ((FB coh).x.ev ρ) .i64 23:=fun hr w q1 q2=>by
   rw [e1] at w;exact go (fN (ρ.i 90)+kk+1) (ρ.i 3-kk-1) (by rw [q1]; exact skip hr) (by rw [q2]; exact e2) (by rw [q1]; exact akf (YD coh hr) (Zo coh _) ρ) (by omega) (by omega) (by omega)
  cases r with
  |d1=>cases hn; exact dvz (r:= .d1) (by simp) hw.2.2.1 rfl rfl
  |d2=>cases hn; exact dvz (r:= .d2) (by simp) hw.2.2.1 rfl rfl
  |d5=>cases hn; exact dvz (r:= .d5) (by simp) hw.2.2.1 rfl rfl
  |d3=>cases hn; exact dvz (r:= .d3) (by simp) hw.2.2.1 rfl rfl
  |D=>
   cases hn;have w:=hw.2.2.1;rw [e1] at w;refine go (fN (ρ.i 90)+kk) (ρ.i 3-kk) ?_ e1 (akf (YJ coh) (acz coh) ρ) (by omega) (by omega) (by omega)
   have h:=ac0 (YJ coh) (acz coh) (ρ:=ρ) (j:=22) (by decide)
   have e:(xz coh (N5 coh) 22).ev ρ=max ((dR coh .i64 22).ev ρ) 0:=by
    have:xz coh (N5 coh) 22=mx0 (eR coh 22):=by cases coh<;>rfl
    rw [this,adn];rfl
   rw [e,off] at h;have h:fN ((nt coh (N5 coh)).ev ρ)=_:=h;show fN ((nt coh (N5 coh)).ev ρ)=_;rw [h];omega
  |_=>cases hn
end
structure aeg (S T:Int):Prop where
 u: ∀j:Nat,j<22->IntKind.u32.wrap (ag S (j:Nat))=IntKind.u32.wrap (ag T (j:Nat))
 p:IntKind.i64.wrap (ag S (22:Nat))=IntKind.i64.wrap (ag T (22:Nat))
 d:IntKind.i64.wrap (ag S (23:Nat))=IntKind.i64.wrap (ag T (23:Nat))
theorem age{S T:Int}(h: ∀j,j<24->dgN (D3 j) S j=dgN (D3 j) T j):aeg S T:=
 ⟨fun j hj=>by
  have:=h j (by omega)
  have k:D3 j= .u32:=by
   unfold D3
   have:Nat.ble 22 j=false:=by
    cases hb:Nat.ble 22 j
    ·rfl
    ·have:=Nat.le_of_ble_eq_true hb; omega
   rw [this]
  rw [k] at this;exact this,h 22 (by decide),h 23 (by decide)⟩
theorem aeg.dig{S T:Int}(h:aeg S T){j:Nat}(hj:j<24):dgN (D3 j) S j=dgN (D3 j) T j:=by
 rcases Nat.lt_or_ge j 22 with h1 |h1
 ·have k:D3 j= .u32:=by
   unfold D3
   have:Nat.ble 22 j=false:=by
    cases hb:Nat.ble 22 j
    ·rfl
    ·have:=Nat.le_of_ble_eq_true hb; omega
   rw [this]
  rw [k];exact h.u j h1
 ·match j,hj,h1 with
  |22,_,_=>exact h.p
  |23,_,_=>exact h.d
  |j+24,hj,_=>exact absurd hj (by omega)
theorem aeg.symm{S T:Int}(h:aeg S T):aeg T S:=⟨fun j hj=>(h.u j hj).symm,h.p.symm,h.d.symm⟩
theorem aeg.trans{S T U:Int}(h:aeg S T)(k:aeg T U):aeg S U:=⟨fun j hj=>(h.u j hj).trans (k.u j hj),h.p.trans k.p,h.d.trans k.d⟩
section
variable{ρ ρ':Env}(hi: ∀i,i≠90->ρ.i i=ρ'.i i)(hg:ρ.g=ρ'.g)(hS:aeg (ρ.i 90) (ρ'.i 90))
include hi hg hS
end
def anl(e:Nat->IE):Dec:=[(.lt (e 22) (.lit 0),false),(.lt (e 23) (.lit 0),false)]
def w40:IE:= .rem (.add (.rem (.var 20) (.lit 40)) (.lit 40)) (.lit 40)
def anr(coh l:Bool)(w:IE):Dec:=ak1 coh (fun j=>akl coh l w (D3 j) j)++anl (fun j=>akl coh l w (D3 j) j)
section
variable{G:Nat->Int->Int->Int->Int}
variable(hG:agt G)
include hG
theorem al8{ρ:Env}(h1:ρ.std G gh)(coh:Bool):NrmS coh ((afm coh).ev ρ):=by
 have h:(FL1 coh).is G ((FL1 coh).x.ev ρ) ((acq coh++[mK coh]).map (·.ev ρ)):=Kp hG coh ρ h1.1
 have er: ∀(k:IntKind) (j:Nat),dgN k ((afm coh).ev ρ) j=DX G (FL1 coh) ((FL1 coh).x.ev ρ) k j:=fun k j=>by
  show k.wrap (ag (fnI ρ (FL1 coh).KR ((FL1 coh).x.ev ρ) 0 0) _)=_;rw [bY (by cases coh<;>decide),h1.1]
  rfl
 have z: ∀(k:IntKind) (j:Nat),((acq coh++[mK coh]).map (·.ev ρ))[j]? =some 0->dgN k ((afm coh).ev ρ) j=0:=fun k j hj=>by
  rw [er];exact C6 h hj (by cases k<;>decide) (by cases k<;>decide)
 constructor
 ·cases coh
  ·exact ⟨z _ 1 rfl,z _ 17 rfl⟩
  ·refine ⟨?_,fun j hj=> ?_⟩
   ·have:=z .u32 17 rfl;show (dgN .u32 ((afm true).ev ρ) 17).tmod 16=dgN .u32 ((afm true).ev ρ) 17;rw [this];rfl
   ·match j,hj with
    |0,_=>exact z .u32 9 rfl
    |1,_=>exact z .u32 10 rfl
    |2,_=>exact z .u32 11 rfl
    |3,_=>exact z .u32 12 rfl
    |4,_=>exact z .u32 13 rfl
    |5,_=>exact z .u32 14 rfl
    |6,_=>exact z .u32 15 rfl
    |7,_=>exact z .u32 16 rfl
 ·obtain ⟨x,hx,hb⟩: ∃x:Int,((acq coh++[mK coh]).map (·.ev ρ))[23]? =some x/\0<=x/\x<=124:=by
   have key: ∀e:IE,0<=e.ev ρ->0<=(IE.rem e (.lit 125)).ev ρ/\(IE.rem e (.lit 125)).ev ρ<=124:=fun e h0=>by
    show 0<=(e.ev ρ).tmod 125/\(e.ev ρ).tmod 125<=124;rw [Int.tmod_eq_emod_of_nonneg h0];omega
   cases coh
   ·exact ⟨_,rfl,key (dg FLQ .u8 29) (wrap_mem .u8 _).1⟩
   ·exact ⟨_,rfl,key (dg FLK .u8 29) (wrap_mem .u8 _).1⟩
  have:=C6 h hx (k:= .i64) (show (-9223372036854775808:Int)<=x by omega) (show x<=9223372036854775807 by omega)
  show 0<=dgN .i64 ((afm coh).ev ρ) 23;rw [er,this];exact hb.1
theorem ak4{ρ:Env}(h1:ρ.std G gh)(h2:ρ.ok (bdL D8)){coh l:Bool}(hl:(many l).1.ev ρ=(many l).2){w:IE}(hw:0<=w.ev ρ/\w.ev ρ<=1000):(anr coh l w).holds ρ:=by
 obtain ⟨ho,_⟩:=anz (w:=w) h2 hl hw;have hs:=ajg hG h1 coh;have hc:=aj8 hG.toRunG coh (ρ.rep (σL coh l w)) h1 ho;have hn:=aj3 hG.toRunG coh (ρ.rep (σL coh l w)) h1 ho;rw [ajw] at hc hn;have hc:=(hc rfl hw.1 hs.1 (show fN ((afm coh).ev ρ)+w.ev ρ<=1000000000000 by omega)).2
 have hc:fN ((afm coh).ev ρ)<=DX G (FB coh) ((ain coh l w).ev ρ) .i64 22:=hc;obtain ⟨n1,n2⟩:=hn (al8 hG h1 coh) hw.1 hs.1 (show fN ((afm coh).ev ρ)+w.ev ρ<=800000000000 by omega)
 refine bJ (ahi.2 (ae6 (fun j _=>(ajp h1 coh l w (D3 j) j).symm) n1)) (ak (decide_eq_false ?_) (ak (decide_eq_false ?_) aw))
 ·show ¬(akl coh l w .i64 22).ev ρ<0;rw [ajp h1];omega
 ·show ¬(akl coh l w .i64 23).ev ρ<0;rw [ajp h1];omega
end
end
end Go.Proofs.YtbhlmedfhilkbaaGreat

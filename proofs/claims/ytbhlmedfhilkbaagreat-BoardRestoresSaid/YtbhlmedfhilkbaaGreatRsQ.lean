/- Part RsQ. No condition. -/
import Derived.Test.YtbhlmedfhilkbaaGreatRs2
set_option linter.all false
namespace Go.Proofs.YtbhlmedfhilkbaaGreat
open Go Go.Sx
set_option maxRecDepth 1000000
noncomputable section
theorem al5:aj opS tSt (fun _=>aez gO FS) [] BK=true:=by kernel_rfl
theorem amd:aj opS tSt (fun _=>aez gO FS) [] x8=true:=by kernel_rfl
theorem ako:aj kj tKs (fun _=>aez da FKS) [] jv=true:=aQ ama (aQ al2 (aQ amh (aQ alw (aQ al4 (aQ al7 amf)))))
theorem akn:aj opS tSt (fun _=>aez gO FS) [] dD=true:=by
 rw [fp];exact aQ al5 amd
section
variable{G:Nat->Int->Int->Int->Int}(hG:RunG G)
include hG
theorem anp{M S:Int}(h0:bn M):bn (G FKS.KV (pk2 M S) 0 26):=
 ajx hG.rH (by decide) rfl (fun ρ h1 h0=>ajq (c:=da) (l:=jv) (by decide) Ib ako hG.made.base h1 (fun i lo hi h=>by cases h) (rT hG.k h1) (by rw [h1.1]; exact hG.ks) h0) M S h0
theorem anw{M S:Int}(h0:bn M):bn (G FS.KV (pk2 M S) 0 26):=
 ajx hG.rH (by decide) rfl (fun ρ h1 h0=>ajq (c:=gO) (l:=dD) (by decide) Xe akn hG.made.base h1 (fun i lo hi h=>by cases h) wv (by rw [h1.1]; exact hG.s) h0) M S h0
theorem ai2{ρ:Env}(h1:ρ.std G gh)(coh:Bool)(h0:bn (ρ.i 0)):bn ((fS coh).ev ρ):=by
 have hP:gg ρ.g:=by rw [h1.1]; exact hG.rH
 have key: ∀F R:Fns,F.vars=[0,90]->R.vars=[0,90,2,3]->(7<F.KR/\7<F.KV)->7<R.KV->R.Def G (jQ F).rt->(∀ M S,bn M->bn (G F.KV (pk2 M S) 0 26))->bn ((vX R.KV x0 24).ev ρ):=fun F R e1 e2 e3 e4 e5 e6=>by
  have:=Rn hG.rH e1 e2 e3 e5 e6 (ρ.i 3).toNat (ρ.i 0) (ρ.i 90) 0 (ρ.i 3) (by omega) h0
  have ex:(vX R.KV x0 24).ev ρ=G R.KV (pk4 (ρ.i 0) (ρ.i 90) 0 (ρ.i 3)) 0 24:=by
   show fnI ρ R.KV (x0.ev ρ) 0 _=_;rw [Ws hP,bY e4,h1.1];rfl
  rw [ex];exact this
 cases coh
 ·exact key FS FR rfl rfl (by decide) (by decide) hG.r (fun M S h=>anw hG h)
 ·exact key FKS FRK rfl rfl (by decide) (by decide) hG.rk (fun M S h=>anp hG h)
theorem aj1(coh:Bool): ∀ρ:Env,ρ.std G gh->Okb ρ->bn (ρ.i 0)->bn (G (FB coh).KV ((FB coh).x.ev ρ) 0 24):=by
 refine NL hG (coh:=coh) (P:=fun ρ=>bn (ρ.i 0)->bn (G (FB coh).KV ((FB coh).x.ev ρ) 0 24)) (fun ρ r h1 h2 h3 hw hn hs=> ?_) fun ρ r σ kk h1 h2 h3 hw hn ha h4 h5 h6 ih=> ?_
 ·intro h0
  have at': ∀(st l:List IE),st.length=24-> ∀i:Nat,((st++l).map (·.ev ρ))[24+i]? =(l.map (·.ev ρ))[i]? :=fun st l hl i=>by
   rw [List.map_append,List.getElem?_append_right (by simp [hl]),List.length_map,hl,Nat.add_sub_cancel_left]
  cases r with
  |A=>
   have hs:(FB coh).is G ((FB coh).x.ev ρ) ((stE (.var 90)++[.var 0,.var 28,bL,.var 41,kG,.var 43,.lit 0,.lit 0,.var 40,.var 42]).map (·.ev ρ)):=hs;have e:G (FB coh).KV ((FB coh).x.ev ρ) 0 ((24:Nat):Int)=ρ.i 0:=Wb hs (at' _ _ rfl 0);rw [show (24:Int)=((24:Nat):Int) from rfl,e]
   exact h0
  |L=>
   have hs:(FB coh).is G ((FB coh).x.ev ρ) ((zE coh++[fS coh,.var 28,bL,.var 41,kG,.var 43,.lit 0,.lit 0,.var 40,.var 42]).map (·.ev ρ)):=hs;have e:G (FB coh).KV ((FB coh).x.ev ρ) 0 ((24:Nat):Int)=(fS coh).ev ρ:=Wb hs (at' _ _ rfl 0);rw [show (24:Int)=((24:Nat):Int) from rfl,e]
   exact ai2 hG h1 coh h0
  |S=>
   have hs:(FB coh).is G ((FB coh).x.ev ρ) ((zE coh++[fS coh,.var 28,bL,.var 41,.lit 1,up 43,.lit 0,.lit 0,.var 40,nk coh (tiE coh) (.lit 0)]).map (·.ev ρ)):=hs;have e:G (FB coh).KV ((FB coh).x.ev ρ) 0 ((24:Nat):Int)=(fS coh).ev ρ:=Wb hs (at' _ _ rfl 0);rw [show (24:Int)=((24:Nat):Int) from rfl,e]
   exact ai2 hG h1 coh h0
  |_=>cases hn
 ·intro h0;rw [Ff ha];refine ih ?_;have e0:(ρ.rep σ).i 0=(fS coh).ev ρ:=by cases r<;>cases hn<;>rfl
  rw [e0];exact ai2 hG h1 coh h0
end
theorem al1{M p r:Int}(h:bn M):bn (prS M p r):=by
 unfold prS;split
 ·rename_i hc
  have hb:0<=aN .and .i64 r 7/\aN .and .i64 r 7<=7:=by
   have:=bD (ρ:=(⟨fun _=>r,fun _=>false,fun _ _ _ _=>0,fun _=>bz.no,#[]⟩:Env)) (bd:=fun _=>none) (fun i lo hi h=>by cases h) (.bits .and .i64 (.var 0) (.lit 7)) 0 7 rfl
   exact this
  have e:p*4+2=((4*p.toNat+2:Nat):Int):=by omega
  rw [e];exact (KC h (p:=p.toNat) (by omega) hb).ok
 ·exact h
theorem aki{G:Nat->Int->Int->Int->Int}(hG:cX G){ρ:Env}(h1:ρ.std G gh){coh:Bool}: ∀(k:Nat) (e:IE),Gp coh k e=true->bn (e.ev ρ):=by
 intro k
 induction k with
 |zero=>intro e h; unfold Gp at h; cases h
 |succ k ih=>
  intro e h;unfold Gp at h;split at h
  ·rename_i k0 c m y z hk;cases hk;split at h
   ·rename_i hc;have a:=ih m h;have six:=(Q4 hG h1 _ m h).1;show bn (fnI ρ c (m.ev ρ) (y.ev ρ) (z.ev ρ));simp only [Bool.or_eq_true,Nat.beq_eq] at hc
    rcases hc with rfl |rfl |rfl
    ·rw [cj hG h1 (by decide) (by decide)]
     exact al1 a
    ·rw [cj hG h1 (by decide) (by decide)]
     show bn (syS (m.ev ρ) (y.ev ρ));unfold syS;split
     ·rename_i hc;obtain ⟨q1,q2⟩:=Bool.and_eq_true_iff.1 hc;have q1:(y.ev ρ) / 256<mN (m.ev ρ):=of_decide_eq_true q1;have q2:aP (m.ev ρ)=false:=by simpa using q2
      exact (Nk a (by omega) q2).ok
     ·exact a
    ·rw [cj hG h1 (by decide) (by decide)]
     have key: ∀(b d:Int) (i n:Nat),bn (poF (m.ev ρ) b d i n):=fun b d i n=>(AY (a:=b) (d:=d) (fun i=>(D1 _ _).1) n i _ _ (bN.refl a)).ok
     exact key _ _ _ _
   ·split at h
    ·rename_i a b;obtain ⟨q1,h⟩:=cN h;obtain ⟨q2,q3⟩:=cN h;have q1:=Nat.eq_of_beq_eq_true q1;have q2:=of_decide_eq_true q2;have q3:=of_decide_eq_true q3;subst q1 q2 q3
     have e:(IE.fn 37 (.lit 6) (.lit (b2 coh)) z).ev ρ=jT 6 (b2 coh):=by
      show fnI ρ 37 6 (b2 coh) _=_;rw [cj hG h1 (by decide) (by decide)]
      rfl
     rw [e];exact A9 ⟨by decide,by decide⟩ (by cases coh<;>decide)
    ·cases h
  ·cases h
theorem ajy{G:Nat->Int->Int->Int->Int}(hG:cX G){c:Con}{F:Fns}{o:Out}{coh:Bool}(hk:7<F.KR/\7<F.KV)(hd:o.all (c.ao F) c.pre=true)(hf:o.all (si c F coh) c.pre=true)
 (hF:F.Def G (c.rows F o)) {ρ:Env} (h1:ρ.std G gh) (h2:ρ.ok (bdL c.bds)) (h0:c.pre.holds ρ):bn ((kvE F 30).ev ρ):=by
 obtain ⟨e,s,dec',hd',a1,a2⟩:=Out.bP (ρ:=ρ) (o:=o) (dec:=c.pre) h0 (p:=fun dec e s=>c.ao F dec e s) hd
 obtain ⟨e2,s2,dec2,hd2,b1,b2⟩:=Out.bP (ρ:=ρ) (o:=o) (dec:=c.pre) h0 (p:=si c F coh) hf;rw [a1] at b1;cases b1;have hF':F.Def ρ.g (c.rows F o):=by rw [h1.1]; exact hF
 obtain ⟨q,c1,c2⟩:=Con.kr (c:=c) (F:=F) (ρ:=ρ) (o:=o) (dec':=dec') hk h2 hF' a1 a2;unfold si at b2;rw [c1] at b2;dsimp only at b2;split at b2
 ·rename_i p hp;obtain ⟨q1,q2⟩:=cN b2;have q1:=IE.eq_eq q1
  have e:(kvE F 30).ev ρ=p.2.ev ρ:=by
   rw [<- q1];exact c2 p (List.mem_of_getElem? hp)
  rw [e];exact aki hG h1 40 _ q2
 ·cases b2
theorem akq{G:Nat->Int->Int->Int->Int}(hM:Made G){ρ:Env}(h1:ρ.std G gh)(h2:ρ.ok (bdL D8))(coh:Bool):bn ((mK coh).ev ρ):=by
 obtain ⟨b1,b2⟩:=Pz h2;cases coh
 ·have hd:=hM.lq;unfold rLQ at hd;have h:=(cN tS).1;have h':=(cN Gc).2;generalize ti=t at h h' hd;exact ajy hM.base (by decide) h h' hd h1 b1 b2
 ·have hd:=hM.lk;unfold rLK at hd;have h:=(cN tG).1;have h':=(cN Gc).1;generalize tA=t at h h' hd;exact ajy hM.base (by decide) h h' hd h1 b1 b2
end
end Go.Proofs.YtbhlmedfhilkbaaGreat

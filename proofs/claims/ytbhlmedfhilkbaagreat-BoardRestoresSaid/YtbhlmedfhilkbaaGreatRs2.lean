/- Part Rs2. No condition. -/
import Derived.Test.YtbhlmedfhilkbaaGreatNmK
set_option linter.all false
namespace Go.Proofs.YtbhlmedfhilkbaaGreat
open Go Go.Sx
set_option maxRecDepth 1000000
noncomputable section
def akv(e:IE):Bool:=match rng (fun _=>none) e with
 |some (a,_)=>aL 0 a
 |none=>false
theorem alg{ρ:Env}{e:IE}(h:akv e=true):0<=e.ev ρ:=by
 unfold akv at h;split at h
 ·rename_i a b hr;have q:=ahk h;have:=bD (ρ:=ρ) (fun i lo hi h=>by cases h) e _ _ hr
  omega
 ·cases h
def ajz:IE->Bool
 | .var i=>Nat.beq i 0
 | .fn c x y z=>ajz x&&(akv y&&(Nat.beq c 33||(Nat.beq c 30&&ag0 255 z)))
 | .sel _ _ _ x y=>ajz x&&ajz y
 |_=>false
def aez(c:Con)(F:Fns)(_:Dec)(_:aM)(s:ASt):Bool:=
 match c.ef s with
 |some q=>E6 q (dy.stepL F)&&ajz (Mg (q.map (·.2)) 26)
 |none=>false
theorem amg{M a b:Int}(h:bn M)(ha:0<=a)(hb:isByte b):bn (stS M a b):=by
 cases hin:inM M a
 ·unfold stS;rw [hin];exact h
 ·exact (Jx (bN.refl h) ha hin hb).ok
theorem al3{M a:Int}(h:bn M)(ha:0<=a):bn (syS M a):=by
 unfold syS;split
 ·rename_i hc;obtain ⟨h1,h2⟩:=Bool.and_eq_true_iff.1 hc;have h1:a / 256<mN M:=of_decide_eq_true h1;have h2:aP M=false:=by simpa using h2
  exact (Nk h (by omega) h2).ok
 ·exact h
theorem akt{G:Nat->Int->Int->Int->Int}(hB:cX G){ρ:Env}(h1:ρ.std G gh)(h0:bn (ρ.i 0)): ∀e:IE,ajz e=true->bn (e.ev ρ):=by
 intro e
 induction e with
 |var i=>intro h; rw [Nat.eq_of_beq_eq_true h]; exact h0
 |fn c x y z ihx _ _=>
  intro h;obtain ⟨hx,h⟩:=aa h;obtain ⟨hy,h⟩:=aa h;have ih:=ihx hx;have hy:=alg (ρ:=ρ) hy
  rcases Bool.or_eq_true_iff.1 h with hc |h
  ·have hc:=Nat.eq_of_beq_eq_true hc;subst hc;show bn (fnI ρ 33 (x.ev ρ) (y.ev ρ) (z.ev ρ));rw [cj hB h1 (by decide) (by decide)]
   exact al3 ih hy
  ·obtain ⟨hc,hz⟩:=aa h;have hc:=Nat.eq_of_beq_eq_true hc;subst hc;show bn (fnI ρ 30 (x.ev ρ) (y.ev ρ) (z.ev ρ));rw [cj hB h1 (by decide) (by decide)]
   exact amg ih hy (ahc hz)
 |sel s a b x y _ _ ihx ihy=>
  intro h;obtain ⟨h1,h2⟩:=aa h;show bn (aA s _ _ (x.ev ρ) (y.ev ρ));unfold aA;split<;>split<;>first |exact ihx h1 |exact ihy h2
 |_=>intro h; cases h
theorem ajq{c:Con}{F:Fns}{e:IE}{f:Int->Out}{l:List Int}(hk:7<F.KR/\7<F.KV)(hd:aj e f (fun _=>c.ao F) [] l=true)(hs:aj e f (fun _=>aez c F) [] l=true){G:Nat->Int->Int->Int->Int}(hB:cX G){ρ:Env}(h1:ρ.std G gh)(h2:ρ.ok (bdL c.bds))(hm:e.ev ρ∈l)(hF:F.Def ρ.g (c.rows F (cg e f l)))
 (h0:bn (ρ.i 0)):bn ((kvE F 26).ev ρ):=by
 obtain ⟨e1,s1,dec1,hd1,a1,a2⟩:=bW hd hm (ρ:=ρ) aw;obtain ⟨e2,s2,dec2,hd2,b1,b2⟩:=bW hs hm (ρ:=ρ) aw;rw [a1] at b1;cases b1;obtain ⟨q,c1,c2⟩:=Con.kr (c:=c) (F:=F) (ρ:=ρ) (o:=cg e f l) (dec':=dec1) hk h2 hF a1 a2;unfold aez at b2;rw [c1] at b2;obtain ⟨d1,d3⟩:=Bool.and_eq_true_iff.1 b2;have e26:=Dq (j:=26) d1 c2 (show 26<27 by decide) (by decide)
 have:=akt hB h1 h0 _ d3;rw [e26] at this;exact this
theorem ajx{G:Nat->Int->Int->Int->Int}(hP:gg G){F:Fns}(hk:7<F.KR/\7<F.KV)(hF:F.vars=[0,90])(h: ∀ρ:Env,ρ.std G gh->bn (ρ.i 0)->bn ((kvE F 26).ev ρ))(M S:Int)(h0:bn M):bn (G F.KV (pk2 M S) 0 26):=by
 have hx:F.x.ev (qq G M S)=pk2 M S:=by
  unfold Fns.x;rw [hF,jl hP];rfl
 have:=h (qq G M S) ⟨rfl,rfl⟩ h0
 have e:(kvE F 26).ev (qq G M S)=G F.KV (pk2 M S) 0 26:=by
  show fnI _ F.KV (F.x.ev _) 0 _=_;rw [hx,bY hk.2];rfl
 rw [e] at this;exact this
theorem ama:aj kj tKs (fun _=>aez da FKS) [] (bm 0)=true:=by kernel_rfl
theorem al2:aj kj tKs (fun _=>aez da FKS) [] (bm 1)=true:=by kernel_rfl
theorem amh:aj kj tKs (fun _=>aez da FKS) [] (bm 2)=true:=by kernel_rfl
theorem alw:aj kj tKs (fun _=>aez da FKS) [] (bm 3)=true:=by kernel_rfl
theorem al4:aj kj tKs (fun _=>aez da FKS) [] (bm 4)=true:=by kernel_rfl
theorem al7:aj kj tKs (fun _=>aez da FKS) [] (bm 5)=true:=by kernel_rfl
theorem amf:aj kj tKs (fun _=>aez da FKS) [] (bm 6)=true:=by kernel_rfl
end
end Go.Proofs.YtbhlmedfhilkbaaGreat

/- A step of K, as functions of the memory and the state. No condition. -/
import Derived.Test.YtbhlmedfhilkbaaGreatKs2
import Derived.Test.YtbhlmedfhilkbaaGreatKs4
import Derived.Test.YtbhlmedfhilkbaaGreatKr0
set_option linter.unusedSimpArgs false
set_option linter.unusedVariables false
set_option linter.unusedSectionVars false
namespace Go.Proofs.YtbhlmedfhilkbaaGreat
open Go Go.Sx
set_option maxRecDepth 1000000
noncomputable section
def jv:List Int:=bm 0++(bm 1++(bm 2++(bm 3++(bm 4++(bm 5++bm 6)))))
def sM:RT:=da.rows FKS (cg kj tKs jv)
theorem Ib:aj kj tKs (fun _=>da.ao FKS) [] jv=true:=by
 have h: ∀k,zl k=true->aj kj tKs (fun _=>da.ao FKS) [] (bm k)=true:=fun k h=>(Bool.and_eq_true_iff.1 (Bool.and_eq_true_iff.1 h).2).1
 exact aQ (h 0 Xv) (aQ (h 1 WW) (aQ (h 2 Xg) (aQ (h 3 XT) (aQ (h 4 WE) (aQ (h 5 W3) (h 6 Xo))))))
theorem ju{f:Int->Out}{c:Con}{F:Fns}{K:Nat}{l m:List Int}(h1:aT f c F K l=true)(h2:aT f c F K m=true):aT f c F K (l++m)=true:=by
 unfold aT at*
 rw [List.all_append,h1,h2]
 rfl
theorem Um:sM.only (bR FKS.vars) 110=true:=by
 have h: ∀k,zl k=true->aT tKs da FKS 110 (bm k)=true:=fun k h=>(Bool.and_eq_true_iff.1 (Bool.and_eq_true_iff.1 h).2).2
 exact hZ (by kernel_rfl) (ju (h 0 Xv) (ju (h 1 WW) (ju (h 2 Xg) (ju (h 3 XT) (ju (h 4 WE) (ju (h 5 W3) (h 6 Xo)))))))
theorem Y4: ∀n∈jv,(kK n).cons.all Con.wf=true:=by
 have h: ∀k,zl k=true-> ∀n∈bm k,(kK n).cons.all Con.wf=true:=fun k h n hn=>List.all_eq_true.1 (Bool.and_eq_true_iff.1 h).1 n hn
 intro n hn
 simp only [jv,List.mem_append] at hn
 rcases hn with hn |hn |hn |hn |hn |hn |hn
 ·exact h 0 Xv n hn
 ·exact h 1 WW n hn
 ·exact h 2 Xg n hn
 ·exact h 3 XT n hn
 ·exact h 4 WE n hn
 ·exact h 5 W3 n hn
 ·exact h 6 Xo n hn
theorem Td: ∀n:Nat,n<256->(isK (.lit (n:Int)) wm).ev ⟨fun _=>0,fun _=>false,fun _ _ _ _=>0,fun _=>bz.no,#[]⟩=1->(n:Int)∈jv:=by decide
theorem Qe{ρ ρ':Env}{x y:IE}(h:x.ev ρ=y.ev ρ'): ∀l,(isK x l).ev ρ=(isK y l).ev ρ'
 | []=>rfl
 | (lo,hi)::l=>by
   show aA true (x.ev ρ) lo 0 (aA true (x.ev ρ) hi 1 ((isK x l).ev ρ))=aA true (y.ev ρ') lo 0 (aA true (y.ev ρ') hi 1 ((isK y l).ev ρ'))
   rw [h,Qe h l]
section
variable{G:Nat->Int->Int->Int->Int}(hB:cX G)(hF:FK.Def G gP)(hS:FKS.Def G sM)
include hB hF
theorem abj: ∀n∈jv,(kK n).Ok PR G gh:=fun n hn=>bB (Y4 n hn) (aJ (S1 hB hF n) (aJ (rv hB (by decide) 1 (.inl rfl)) (aJ (rv hB (by decide) 4 (.inr rfl)) (aJ (oh hB (by decide) 1 (.inl rfl)) (aJ (oh hB (by decide) 4 (.inr rfl)) (aJ (LL (fun k a b=>hB 40 (by decide) k a b)) dj))))))
omit hB in
theorem rT{ρ:Env}(h1:ρ.std G gh):kj.ev ρ∈jv:=by
 have hb:ρ.rep (Hz GD) |>.ok (bdL cFk.bds):=fun i lo hi hx=>by
  match i with
  |0=>cases hx
  |1=>cases hx; exact wrap_mem .u32 _
  |i+2=>cases hx
 have h:=Sa hF (ρ:=ρ.rep (Hz GD)) h1 hb
 have e:kj.ev ρ=(dg FK .u8 0).ev (ρ.rep (Hz GD)):=IE.a9 _ _ _
 have hm:=wrap_mem .u8 ((IE.fn 0 (.fn FK.KR FK.x (.lit 0) (.lit 0)) (.lit (.ofNat 0)) (.lit 0)).ev (ρ.rep (Hz GD)))
 have hlo:0<=(dg FK .u8 0).ev (ρ.rep (Hz GD)):=hm.1
 have hhi:(dg FK .u8 0).ev (ρ.rep (Hz GD))<=255:=hm.2
 obtain ⟨n,hn⟩:=Int.eq_ofNat_of_zero_le hlo
 rw [e,hn]
 refine Td n (by omega) ?_
 rw [<- h]
 exact Qe (by rw [hn]; rfl) _
omit hB in
include hS in
theorem Wh{ρ:Env}(h1:ρ.std G gh)(h2:ρ.ok (bdL da.bds)): ∃x s q,(cg kj tKs jv).pick ρ=some (x,s)/\da.ef s=some q/\q.hold ρ:=by
 obtain ⟨x2,s2,dec',hd',a1,a2⟩:=bW (ρ:=ρ) (e:=kj) (f:=tKs) Ib (rT hF h1) aw
 obtain ⟨q2,b1,b2⟩:=Con.kr (c:=da) (F:=FKS) (ρ:=ρ) (o:=cg kj tKs jv) (dec':=dec') (by decide) h2 (by rw [h1.1]; exact hS) a1 a2
 exact ⟨x2,s2,q2,a1,b1,b2⟩
include hS
theorem LN:da.Ok PR G gh:=
 Con.mS (c:=da) mixed (K:=kK) (l:=jv) (abj hB hF) (L:=40) (pol:=aG) (pure:=no') (d:=20) (facts:=[]) (fun _ _ _ _=>aw) (e:=kj) (fun ρ h1 _ _=>rT hF h1) fun ρ h1 h2 _=>by
  obtain ⟨x,s,q,a,b,c⟩:=Wh hF hS h1 h2
  exact ⟨x,s,_,q,a,b,c⟩
end
end
end Go.Proofs.YtbhlmedfhilkbaaGreat
namespace Go.Proofs.YtbhlmedfhilkbaaGreat
open Go Go.Sx
set_option maxRecDepth 1000000
noncomputable section
section
variable{G:Nat->Int->Int->Int->Int}(hB:cX G)(hF:FK.Def G gP)
include hB
include hF
end
end
end Go.Proofs.YtbhlmedfhilkbaaGreat
namespace Go.Proofs.YtbhlmedfhilkbaaGreat
open Go Go.Sx
set_option maxRecDepth 1000000
noncomputable section
def j0:Con:={g:=119,args:=[Z8,pm],os:=[dZ 2 (.var 0)],res:= .agg (Wy FKS aW 0++[.int .i64 (dg FKS .u8 24),.int .u32 (dg FKS .u32 25)]),os':=[dZ 2 aau]}
end
end Go.Proofs.YtbhlmedfhilkbaaGreat
namespace Go.Proofs.YtbhlmedfhilkbaaGreat
open Go Go.Sx
set_option maxRecDepth 1000000
noncomputable section
end
end Go.Proofs.YtbhlmedfhilkbaaGreat
namespace Go.Proofs.YtbhlmedfhilkbaaGreat
open Go Go.Sx
set_option maxRecDepth 1000000
noncomputable section
end
end Go.Proofs.YtbhlmedfhilkbaaGreat
namespace Go.Proofs.YtbhlmedfhilkbaaGreat
open Go Go.Sx
set_option maxRecDepth 1000000
noncomputable section
end
end Go.Proofs.YtbhlmedfhilkbaaGreat
namespace Go.Proofs.YtbhlmedfhilkbaaGreat
open Go Go.Sx
set_option maxRecDepth 1000000
noncomputable section
end
end Go.Proofs.YtbhlmedfhilkbaaGreat

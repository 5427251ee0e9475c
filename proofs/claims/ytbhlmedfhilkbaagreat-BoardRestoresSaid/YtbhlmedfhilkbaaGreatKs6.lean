/- Part Ks6. No condition. -/
import Derived.Test.YtbhlmedfhilkbaaGreatKs2
import Derived.Test.YtbhlmedfhilkbaaGreatKs4
import Derived.Test.YtbhlmedfhilkbaaGreatKr0
set_option linter.all false
namespace Go.Proofs.YtbhlmedfhilkbaaGreat
open Go Go.Sx
set_option maxRecDepth 1000000
noncomputable section
def jv:List Int:=bm 0++(bm 1++(bm 2++(bm 3++(bm 4++(bm 5++bm 6)))))
def sM:RT:=da.rows FKS (cg kj tKs jv)
theorem Ib:aj kj tKs (fun _=>da.ao FKS) [] jv=true:=by
 have h: ∀k,zl k=true->aj kj tKs (fun _=>da.ao FKS) [] (bm k)=true:=fun k h=>(Bool.and_eq_true_iff.1 (Bool.and_eq_true_iff.1 h).2).1
 exact aQ (h 0 Xv) (aQ (h 1 WW) (aQ (h 2 Xg) (aQ (h 3 XT) (aQ (h 4 WE) (aQ (h 5 W3) (h 6 Xo))))))
theorem ju{f:Int->Out}{c:Con}{F:Fns}{K:Nat}{l m:List Int}(h1:aT f c F K l=true)(h2:aT f c F K m=true):aT f c F K (l++m)=true:=by
 unfold aT at*;rw [List.all_append,h1,h2];rfl
theorem Um:sM.only (bR FKS.vars) 110=true:=by
 have h: ∀k,zl k=true->aT tKs da FKS 110 (bm k)=true:=fun k h=>(Bool.and_eq_true_iff.1 (Bool.and_eq_true_iff.1 h).2).2
 exact hZ (by kernel_rfl) (ju (h 0 Xv) (ju (h 1 WW) (ju (h 2 Xg) (ju (h 3 XT) (ju (h 4 WE) (ju (h 5 W3) (h 6 Xo)))))))
theorem Y4: ∀n∈jv,(kK n).cons.all Con.wf=true:=by
 have h: ∀k,zl k=true-> ∀n∈bm k,(kK n).cons.all Con.wf=true:=fun k h n hn=>List.all_eq_true.1 (Bool.and_eq_true_iff.1 h).1 n hn
 intro n hn;simp only [jv,List.mem_append] at hn
 rcases hn with hn |hn |hn |hn |hn |hn |hn
 ·exact h 0 Xv n hn
 ·exact h 1 WW n hn
 ·exact h 2 Xg n hn
 ·exact h 3 XT n hn
 ·exact h 4 WE n hn
 ·exact h 5 W3 n hn
 ·exact h 6 Xo n hn
theorem Td: ∀n:Nat,n<256->(isK (.lit (n:Int)) wm).ev ⟨fun _=>0,fun _=>false,fun _ _ _ _=>0,fun _=>bz.no,#[]⟩=1->(n:Int)∈jv:=by decide
theorem Qe{ρ ρ':Env}{x y:IE}(h:x.ev ρ=y.ev ρ'): ∀l,(isK x l).ev ρ=(isK y l).ev ρ'
 | []=>rfl
 | (lo,hi)::l=>by
   show aA true (x.ev ρ) lo 0 (aA true (x.ev ρ) hi 1 ((isK x l).ev ρ))=aA true (y.ev ρ') lo 0 (aA true (y.ev ρ') hi 1 ((isK y l).ev ρ'));rw [h,Qe h l]
section
variable{G:Nat->Int->Int->Int->Int}(hB:cX G)(hF:FK.Def G gP)(hS:FKS.Def G sM)
include hB hF
theorem abj: ∀n∈jv,(kK n).Ok PR G gh:=fun n hn=>bB (Y4 n hn) (aJ (S1 hB hF n) (aJ (rv hB (by decide) 1 (.inl rfl)) (aJ (rv hB (by decide) 4 (.inr rfl)) (aJ (oh hB (by decide) 1 (.inl rfl)) (aJ (oh hB (by decide) 4 (.inr rfl)) (aJ (LL (fun k a b=>hB 40 (by decide) k a b)) dj))))))
omit hB in
theorem rT{ρ:Env}(h1:ρ.std G gh):kj.ev ρ∈jv:=by
 have hb:ρ.rep (Hz GD) |>.ok (bdL cFk.bds):=fun i lo hi hx=>by
  match i with
  |0=>cases hx
  |1=>cases hx; exact wrap_mem .u32 _
  |i+2=>cases hx
 have h:=Sa hF (ρ:=ρ.rep (Hz GD)) h1 hb;have e:kj.ev ρ=(dg FK .u8 0).ev (ρ.rep (Hz GD)):=IE.a9 _ _ _;have hm:=wrap_mem .u8 ((IE.fn 0 (.fn FK.KR FK.x (.lit 0) (.lit 0)) (.lit (.ofNat 0)) (.lit 0)).ev (ρ.rep (Hz GD)));have hlo:0<=(dg FK .u8 0).ev (ρ.rep (Hz GD)):=hm.1;have hhi:(dg FK .u8 0).ev (ρ.rep (Hz GD))<=255:=hm.2;obtain ⟨n,hn⟩:=Int.eq_ofNat_of_zero_le hlo;rw [e,hn];refine Td n (by omega) ?_
 rw [<- h];exact Qe (by rw [hn]; rfl) _
omit hB in
include hS in
theorem Wh{ρ:Env}(h1:ρ.std G gh)(h2:ρ.ok (bdL da.bds)): ∃x s q,(cg kj tKs jv).pick ρ=some (x,s)/\da.ef s=some q/\q.hold ρ:=by
 obtain ⟨x2,s2,dec',hd',a1,a2⟩:=bW (ρ:=ρ) (e:=kj) (f:=tKs) Ib (rT hF h1) aw;obtain ⟨q2,b1,b2⟩:=Con.kr (c:=da) (F:=FKS) (ρ:=ρ) (o:=cg kj tKs jv) (dec':=dec') (by decide) h2 (by rw [h1.1]; exact hS) a1 a2
 exact ⟨x2,s2,q2,a1,b1,b2⟩
include hS
theorem LN:da.Ok PR G gh:=
 Con.mS (c:=da) mixed (K:=kK) (l:=jv) (abj hB hF) (L:=40) (pol:=aG) (pure:=no') (d:=20) (facts:=[]) (fun _ _ _ _=>aw) (e:=kj) (fun ρ h1 _ _=>rT hF h1) fun ρ h1 h2 _=>by
  obtain ⟨x,s,q,a,b,c⟩:=Wh hF hS h1 h2;exact ⟨x,s,_,q,a,b,c⟩
end
theorem L0:ivK=iR 0++(iR 1++(iR 2++(iR 3++(iR 4++iR 5)))):=by decide
theorem SV: ∀v∈ivK,Gx v=true:=by
 intro v hv;rw [L0] at hv;simp only [List.mem_append] at hv
 rcases hv with hv |hv |hv |hv |hv |hv
 ·exact List.all_eq_true.1 adv v hv
 ·exact List.all_eq_true.1 ac8 v hv
 ·exact List.all_eq_true.1 adj v hv
 ·exact List.all_eq_true.1 adb v hv
 ·exact List.all_eq_true.1 ad5 v hv
 ·exact List.all_eq_true.1 ad8 v hv
theorem Wz: ∀n:Nat,n<256-> ∃v∈ivK,v.1<=n/\n<v.2:=by decide
theorem TA(n:Int):(Xu n).cons.all Con.wf=true:=by kernel_rfl
def Wg:Con:={EP with res:= .agg (OY++tK)}
def On(n:Int):Con:={EP with pre:=[(.eq (dg FK .u8 0) (.lit n),true)],res:= .agg ([.int .i64 (.lit n),.int .i64 kRD,.int .i64 (.rem (dg FK .u8 2) (.lit (match aK n 129 with |true=>4 |false=>8))),.int .i64 kRX,.int .i64 (dg FK .u8 4),.int .u32 (dg FK .u32 5),.int .i64 (dg FK .u8 6)]++tK)}
section
variable{G:Nat->Int->Int->Int->Int}(hB:cX G)(hF:FK.Def G gP)
include hB
theorem Uo(n:Int):(Xu n).Ok PR G gh:=bB (TA n) (aJ (Jt hB n) (aJ (I1 hB) (aJ (G7 hB) dj)))
include hF
theorem UK:EP.Ok PR G gh:=by
 intro ρ h1 h2 h3;have hm:=wrap_mem .u8 ((IE.fn 21 (.var 0) (.var 1) (.lit 0)).ev ρ);have hlo:0<=cdE.ev ρ:=hm.1;have hhi:cdE.ev ρ<=255:=hm.2;obtain ⟨n,hn⟩:=Int.eq_ofNat_of_zero_le hlo;obtain ⟨v,hv,v1,v2⟩:=Wz n (by omega)
 have hf:(Qa v).holds ρ:=by
  unfold Qa;split
  ·rename_i he;have he:=Nat.eq_of_beq_eq_true he;have e1:(BE.eq cdE (.lit v.1)).ev ρ=true:=decide_eq_true (by rw [hn]; show (n:Int)=(v.1:Int); omega)
   exact aR aw e1
  ·have e1:(BE.lt cdE (.lit v.1)).ev ρ=false:=decide_eq_false (by rw [hn]; show ¬((n:Int)<(v.1:Int)); omega)
   have e2:(BE.lt cdE (.lit v.2)).ev ρ=true:=decide_eq_true (by rw [hn]; show (n:Int)<(v.2:Int); omega)
   exact aR (aR aw e2) e1
 obtain ⟨f,hfi,hf⟩: ∃f∈RF v,f.holds ρ:=by
  unfold RF;split
  ·cases hb:(BE.eq b2E (.lit 8)).ev ρ with
   |true=>exact ⟨_,List.mem_cons_self ..,aR hf hb⟩
   |false=>exact ⟨_,List.mem_cons_of_mem _ (List.mem_cons_self ..),aR hf hb⟩
  ·exact ⟨_,List.mem_cons_self ..,hf⟩
 have h:=List.all_eq_true.1 (SV v hv) f hfi;obtain ⟨e,s,dec',hd',p1,p2⟩:=Out.bP (bJ hf h3) h;unfold Con.cQ at p2;split at p2
 ·rename_i q hq;refine Con.ig (dh PR EP.g) (fun B W=>(Con.dJ mixed (Uo hB _) h1 h2 h3 hf p1 B W).toR) hq (nq h2 hd' p2 fun x' s' m hp hm=> ?_)
  obtain ⟨x2,s2,q2,a1,a2,a3⟩:=Con.uc w8 (by decide) (c:=cFk) h2 aw (by rw [h1.1]; exact hF)
  rw [hp] at a1;cases a1;exact yk a2 a3 hm
 ·cases p2
theorem Pu(n:Int):(On n).Ok PR G gh:=by
 refine eV (c:=Wg) (q:=[(.lit n,dg FK .u8 0),(kRD,kRD),(.rem (dg FK .u8 2) (.lit (match aK n 129 with |true=>4 |false=>8)),kRS),(kRX,kRX),(dg FK .u8 4,dg FK .u8 4),(dg FK .u32 5,dg FK .u32 5),(dg FK .u8 6,dg FK .u8 6),(dg FK .u8 7,dg FK .u8 7),(dg FK .u32 8,dg FK .u32 8)]) rfl rfl rfl rfl ?_ rfl fun ρ h1 h2 h3=>⟨h2,aw,fun p hp=> ?_⟩
 ·refine Con.q9 (c:=EP) (r:=Wg.res) (q:=kfQ) (UK hB hF) rfl fun ρ h1 h2 h3=>Gk hF h1 h2
 ·have a:(dg FK .u8 0).ev ρ=n:=of_decide_eq_true (h3 (.eq (dg FK .u8 0) (.lit n),true) (by simp [On]))
  simp only [List.mem_cons,List.not_mem_nil,or_false] at hp
  rcases hp with rfl |rfl |rfl |rfl |rfl |rfl |rfl |rfl |rfl
  ·exact a.symm
  ·rfl
  ·show ((dg FK .u8 2).ev ρ).tmod (match aK n 129 with |true=>4 |false=>8)=aA false ((dg FK .u8 0).ev ρ) 129 (((dg FK .u8 2).ev ρ).tmod 4) (((dg FK .u8 2).ev ρ).tmod 8)
   rw [a];unfold aA;rw [om]
   by_cases he:n=129<;>simp [he]
  all_goals rfl
end
def WK:Con:={g:=122,args:=[uV .u32 1],bds:=[bC 1],res:= .int .i64 (.wrap .i32 (.var 1))}
def Zl:IE:= .sel true (.var 1) (.lit 2147483648) (.var 1) (.sub (.var 1) (.lit 4294967296))
def Wc:Con:={WK with res:= .int .i64 Zl}
theorem Ut:fq Wc ⟨[],[]⟩ 10 4 12=true:=by kernel_rfl
theorem Uw{G:Nat->Int->Int->Int->Int}{GH:Nat->bz}:WK.Ok PR G GH:=by
 refine Con.q9 (c:=Wc) (r:= .int .i64 (.wrap .i32 (.var 1))) (q:=[(.wrap .i32 (.var 1),Zl)]) (bA bc Ut) rfl fun ρ h1 h2 h3 p hp=> ?_
 simp only [List.mem_cons,List.not_mem_nil,or_false] at hp;subst hp;obtain ⟨q1,q2⟩:=h2 1 0 4294967295 rfl;show IntKind.i32.wrap (ρ.i 1)=aA true (ρ.i 1) 2147483648 (ρ.i 1) (ρ.i 1-4294967296);rw [dM,yZ];show (if 2147483648<=ρ.i 1 % 4294967296 then ρ.i 1 % 4294967296-4294967296 else ρ.i 1 % 4294967296)=_
 rw [Int.emod_eq_of_lt q1 (by omega)]
 by_cases h:ρ.i 1<2147483648
 ·rw [if_pos h,if_neg (by omega)]
 ·rw [if_neg h,if_pos (by omega)]
def j0:Con:={g:=119,args:=[Z8,pm],os:=[dZ 2 (.var 0)],res:= .agg (Wy FKS aW 0++[.int .i64 (dg FKS .u8 24),.int .u32 (dg FKS .u32 25)]),os':=[dZ 2 aau]}
def kKr(n:Int):Know:=⟨[On n,mn 1,mn 4,gR 1,gR 4,cFl 139,WK],[]⟩
def Vf(n:Int):Dec:=[(.eq kj (.lit n),true)]
def tKr(n:Int):Out:=j0.tree PR (kKr n) 40 aG no' 20 (Vf n)
def tB(n:Int):Bool:=(kKr n).cons.all Con.wf&&(tKr n).all (j0.cQ (EO da 27) (tKs n)) (Vf n++j0.pre)
def jc(k i n:Nat):Bool:=(((bm k).drop i).take n).all tB
theorem WZ:jc 0 0 15=true:=by kernel_rfl
theorem WT:jc 1 0 15=true:=by kernel_rfl
theorem W6:jc 2 0 15=true:=by kernel_rfl
theorem XR:jc 3 0 1=true:=by kernel_rfl
theorem WX:jc 3 1 1=true:=by kernel_rfl
theorem YA:jc 3 2 1=true:=by kernel_rfl
theorem Yq:jc 3 3 1=true:=by kernel_rfl
theorem XP:jc 3 4 1=true:=by kernel_rfl
theorem W8:jc 3 5 1=true:=by kernel_rfl
theorem Wx:jc 3 6 1=true:=by kernel_rfl
theorem Ww:jc 4 0 1=true:=by kernel_rfl
theorem Yr:jc 4 1 1=true:=by kernel_rfl
theorem Wt:jc 4 2 1=true:=by kernel_rfl
theorem Yv:jc 4 3 1=true:=by kernel_rfl
theorem Yp:jc 5 0 1=true:=by kernel_rfl
theorem Yg:jc 5 1 1=true:=by kernel_rfl
theorem Xm:jc 5 2 1=true:=by kernel_rfl
theorem Xn:jc 6 0 6=true:=by kernel_rfl
theorem Xp:jc 6 6 6=true:=by kernel_rfl
theorem SG:jc 6 12 6=true:=by kernel_rfl
theorem Sy:jc 6 18 6=true:=by kernel_rfl
theorem UP:jc 6 24 6=true:=by kernel_rfl
end
end Go.Proofs.YtbhlmedfhilkbaaGreat

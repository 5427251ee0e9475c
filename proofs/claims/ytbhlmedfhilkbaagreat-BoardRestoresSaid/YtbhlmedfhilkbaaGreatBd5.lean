/- Part Bd5. No condition. -/
import Derived.Test.YtbhlmedfhilkbaaGreatBd4
set_option linter.all false
namespace Go.Proofs.YtbhlmedfhilkbaaGreat
open Go Go.Sx
set_option maxRecDepth 1000000
noncomputable section
def QO(i:Nat):IE:= .wrap .i64 (.fn 0 (.var 0) (.add (.mul (.quo (adE i) (.lit 256)) (.lit 4)) (.lit 2)) (.lit 0))
def EZ(i:Nat)(r:Int)(x y:IE):IE:= .sel true (.quo (adE i) (.lit 256)) nE (.sel false (.bits .and .i64 (QO i) (.lit r)) (.lit 0) y x) y
def DV(r:Int):Nat->Nat->IE
 |_,0=> .lit 0
 |i,n+1=>EZ i r (DV r (i+1) n) (adE i)
def tE(r:Int):Nat->Nat->IE
 |_,0=> .lit 1
 |i,n+1=>EZ i r (tE r (i+1) n) (.lit 0)
def okI(i:Nat)(r:Int)(x y:IE):IE:= .sel false (.fn 22 (.var 0) (adE i) (.lit r)) (.lit 1) x y
def atE(r:Int):Nat->Nat->IE
 |_,0=> .lit 0
 |i,n+1=>okI i r (atE r (i+1) n) (adE i)
def eO(r:Int):Nat->Nat->IE
 |_,0=> .lit 1
 |i,n+1=>okI i r (eO r (i+1) n) (.lit 0)
def chk(k n:Nat)(r:Int)(res:ab):Con:=rp k 296 [uV .u32 1,.int .i64 (.lit n),.int .i64 (.lit r)] [bC 1] res
def bH(k n:Nat)(r:Int):Con:=chk k n r (.tuple [.int .u32 (DV r 0 n),.bool (.eq (tE r 0 n) (.lit 1))])
def dH(k n:Nat)(r:Int):Con:=chk k n r (.tuple [.int .u32 (atE r 0 n),.bool (.eq (eO r 0 n) (.lit 1))])
def dY(c:Con)(k:Nat)(l:List Con)(coh:Bool):Bool:=
 ((tV c (gK k) slT coh).tree PR ⟨l,[]⟩ 20 aG no' 12 []).all ((tV c (gK k) slT coh).leaf (qP (bdL c.bds) 20)) (tV c (gK k) slT coh).pre
theorem adi:(dY (bH 0 1 1) 0 [] true&&(dY (bH 0 1 1) 0 [] false&&(dY (bH 0 1 2) 0 [] true&&(dY (bH 0 1 2) 0 [] false&&(dY (bH 0 4 1) 0 [] true&&(dY (bH 0 4 1) 0 [] false&&(dY (bH 0 4 2) 0 [] true&&dY (bH 0 4 2) 0 [] false)))))))=true:=by kernel_rfl
theorem adu:(dY (bH 1 1 1) 1 [] true&&(dY (bH 1 1 1) 1 [] false&&(dY (bH 1 1 2) 1 [] true&&(dY (bH 1 1 2) 1 [] false&&(dY (bH 1 4 1) 1 [] true&&(dY (bH 1 4 1) 1 [] false&&(dY (bH 1 4 2) 1 [] true&&dY (bH 1 4 2) 1 [] false)))))))=true:=by kernel_rfl
section
variable{G:Nat->Int->Int->Int->Int}(hG:cX G)
omit hG in
theorem tO{ρ:Env}(h2:ρ.ok (bdL [bC 1])): ∀i:Nat,(adE i).ev ρ=ad (ρ.i 1) i/\0<=ad (ρ.i 1) i/\ad (ρ.i 1) i<=4294967295:=by
 intro i;have hm:=wrap_mem .u32 (ρ.i 1+i);refine ⟨?_,hm.1,hm.2⟩;obtain ⟨q1,q2,_⟩:=c8 h2 rfl
 match i with
 |0=>
  show ρ.i 1=IntKind.u32.wrap (ρ.i 1+((0:Nat):Int));rw [show ρ.i 1+((0:Nat):Int)=ρ.i 1 by omega]
  exact (bI .u32 _ q1 q2).symm
 |i+1=>rfl
omit hG in
theorem Ex{ρ:Env}(h2:ρ.ok (bdL [bC 1]))(i:Nat)(r:Int)(x y:IE):(EZ i r x y).ev ρ=if okS (ρ.i 0) (ad (ρ.i 1) i) r=true then x.ev ρ else y.ev ρ:=by
 obtain ⟨e1,e2,e3⟩:=tO h2 i
 have hq:(IE.quo (adE i) (.lit 256)).ev ρ=ad (ρ.i 1) i / 256:=by
  show ((adE i).ev ρ).tdiv 256=_;rw [e1];exact Int.tdiv_eq_ediv_of_nonneg e2
 have hr:(QO i).ev ρ=IntKind.i64.wrap (ag (ρ.i 0) (ad (ρ.i 1) i / 256*4+2)):=by
  show IntKind.i64.wrap (ag (ρ.i 0) ((IE.quo (adE i) (.lit 256)).ev ρ*4+2))=_;rw [hq]
 show aA true ((IE.quo (adE i) (.lit 256)).ev ρ) (mN (ρ.i 0)) (aA false (aN .and .i64 ((QO i).ev ρ) r) 0 (y.ev ρ) (x.ev ρ)) (y.ev ρ)=_;rw [hq,hr];unfold okS inM aA
 by_cases h:ad (ρ.i 1) i / 256<mN (ρ.i 0)
 ·by_cases h':aN .and .i64 (IntKind.i64.wrap (ag (ρ.i 0) (ad (ρ.i 1) i / 256*4+2))) r=0
  ·simp [h,h']
  ·simp [h,h']
 ·simp [h]
include hG
theorem ta{ρ:Env}(h1:ρ.std G gh)(h2:ρ.ok (bdL [bC 1]))(i:Nat)(r:Int)(x y:IE):(okI i r x y).ev ρ=if okS (ρ.i 0) (ad (ρ.i 1) i) r=true then x.ev ρ else y.ev ρ:=by
 show aA false ((IE.fn 22 (.var 0) (adE i) (.lit r)).ev ρ) 1 (x.ev ρ) (y.ev ρ)=_;rw [FX hG h1,(tO h2 i).1];simp only [aA,Iz];rfl
theorem Tw{ρ:Env}(h1:ρ.std G gh)(h2:ρ.ok (bdL [bC 1]))(r:Int): ∀n i,(atE r i n).ev ρ=(DV r i n).ev ρ/\(eO r i n).ev ρ=(tE r i n).ev ρ:=by
 intro n
 induction n with
 |zero=>intro i; exact ⟨rfl,rfl⟩
 |succ n ih=>
  intro i;refine ⟨?_,?_⟩
  ·show (okI i r (atE r (i+1) n) (adE i)).ev ρ=(EZ i r (DV r (i+1) n) (adE i)).ev ρ;rw [ta hG h1 h2,Ex h2,(ih (i+1)).1]
  ·show (okI i r (eO r (i+1) n) (.lit 0)).ev ρ=(EZ i r (tE r (i+1) n) (.lit 0)).ev ρ;rw [ta hG h1 h2,Ex h2,(ih (i+1)).2]
theorem oA{k n:Nat}{r:Int}(hk:k<2)(hfr:(bH k n r).res.free=true)(ht:dY (bH k n r) k [] true=true)(hf:dY (bH k n r) k [] false=true):(dH k n r).Ok PR G gh:=by
 have raw:(bH k n r).Ok PR G gh:=by
  refine Lo (k:=k) (cv:=mu k) (iW hk) rfl rfl hfr rfl fun coh=> ?_
  have h:dY (bH k n r) k [] coh=true:=by cases coh<;>assumption
  exact Con.q8 mixed ⟨bO.nil,fun _ h=>by cases h⟩ 20 aG no' 12 20 h
 refine Con.q9 (c:=bH k n r) (r:= .tuple [.int .u32 (atE r 0 n),.bool (.eq (eO r 0 n) (.lit 1))]) raw (q:=[(atE r 0 n,DV r 0 n),(.sel false (eO r 0 n) (.lit 1) (.lit 1) (.lit 0),.sel false (tE r 0 n) (.lit 1) (.lit 1) (.lit 0))]) rfl fun ρ h1 h2 h3 p hp=> ?_
 have:=Tw hG h1 h2 r n 0;simp only [List.mem_cons,List.not_mem_nil,or_false] at hp
 rcases hp with rfl |rfl
 ·exact this.1
 ·show aA false ((eO r 0 n).ev ρ) 1 1 0=aA false ((tE r 0 n).ev ρ) 1 1 0;rw [this.2]
theorem nT{k:Nat}(hk:k<2): ∀n,(n=1\/n=4)-> ∀r:Int,(r=1\/r=2)->(dH k n r).Ok PR G gh:=by
 have h:=two (p:=fun k=>(dY (bH k 1 1) k [] true&&(dY (bH k 1 1) k [] false&&(dY (bH k 1 2) k [] true&&(dY (bH k 1 2) k [] false&&(dY (bH k 4 1) k [] true&&(dY (bH k 4 1) k [] false&&(dY (bH k 4 2) k [] true&&dY (bH k 4 2) k [] false)))))))=true) adi adu hk
 simp only [Bool.and_eq_true] at h;obtain ⟨a1,a2,a3,a4,a5,a6,a7,a8⟩:=h
 rintro n (rfl |rfl) r (rfl |rfl)
 ·exact oA hG hk rfl a1 a2
 ·exact oA hG hk rfl a3 a4
 ·exact oA hG hk rfl a5 a6
 ·exact oA hG hk rfl a7 a8
end
def pkE(i:Nat):IE:= .wrap .u8 (.fn 20 (.var 0) (adE i) (.lit 0))
def ldW(n:Nat):IE:=match n with
 |1=>pkE 0
 |_=> .add (.mul (.add (.mul (.add (.mul (pkE 3) (.lit 256)) (pkE 2)) (.lit 256)) (pkE 1)) (.lit 256)) (pkE 0)
def acu(r:Int)(n:Nat):BE:= .eq (eO r 0 n) (.lit 1)
def kZ(k n:Nat):Con:=rp k 294 [uV .u32 1,.int .i64 (.lit n)] [bC 1] (.tuple [.int .u32 (.sel false (eO 1 0 n) (.lit 1) (ldW n) (.lit 0)),.int .u32 (atE 1 0 n),.bool (acu 1 n)])
def btE(i:Nat):IE:= .wrap .u8 (.quo (.var 2) (.lit (256^i:Nat)))
def stW(n:Nat):IE:=match n with
 |1=> .fn 30 (.var 0) (adE 0) (btE 0)
 |_=> .fn 30 (.fn 30 (.fn 30 (.fn 30 (.var 0) (adE 0) (btE 0)) (adE 1) (btE 1)) (adE 2) (btE 2)) (adE 3) (btE 3)
def gS(k n:Nat):Con:=rp k 295 [uV .u32 1,.int .i64 (.lit n),uV .u32 2] [bC 1,bC 2] (.tuple [.int .u32 (atE 2 0 n),.bool (acu 2 n)]) (.sel false (eO 2 0 n) (.lit 1) (stW n) (.var 0))
def tC(c:Con)(l:List Con)(d:Nat):Bool:=(c.tree PR ⟨l,[]⟩ 20 aG no' 12 []).all (c.leaf (qP (bdL c.bds) d)) c.pre
theorem abp:(tC (kZ 0 1) [dH 0 1 1,gI 0] 20&&tC (kZ 0 4) [dH 0 4 1,gI 0] 20)=true:=by kernel_rfl
theorem acd:(tC (kZ 1 1) [dH 1 1 1,gI 1] 20&&tC (kZ 1 4) [dH 1 4 1,gI 1] 20)=true:=by kernel_rfl
theorem WQ:(tC (gS 0 1) [dH 0 1 2,pR 0] 20&&tC (gS 0 4) [dH 0 4 2,pR 0] 20)=true:=by kernel_rfl
theorem X5:(tC (gS 1 1) [dH 1 1 2,pR 1] 20&&tC (gS 1 4) [dH 1 4 2,pR 1] 20)=true:=by kernel_rfl
theorem wfL: ∀ {k:Nat},k<2->[dH k 1 1,gI k].all Con.wf=true/\[dH k 4 1,gI k].all Con.wf=true/\[dH k 1 2,pR k].all Con.wf=true/\[dH k 4 2,pR k].all Con.wf=true:=
 two (p:=fun k=>[dH k 1 1,gI k].all Con.wf=true/\[dH k 4 1,gI k].all Con.wf=true/\[dH k 1 2,pR k].all Con.wf=true/\[dH k 4 2,pR k].all Con.wf=true)
  ⟨by kernel_rfl,by kernel_rfl,by kernel_rfl,by kernel_rfl⟩ ⟨by kernel_rfl,by kernel_rfl,by kernel_rfl,by kernel_rfl⟩
theorem C2{G:Nat->Int->Int->Int->Int}{c1 c2:Con}(h:[c1,c2].all Con.wf=true)(h1:c1.Ok PR G gh)(h2:c2.Ok PR G gh):bO PR G gh [c1,c2]:=ku h fun c hc=>by
 simp only [List.mem_cons,List.not_mem_nil,or_false] at hc
 rcases hc with rfl |rfl
 ·exact h1
 ·exact h2
theorem ve{G:Nat->Int->Int->Int->Int}{c:Con}{l:List Con}{d:Nat}(hl:bO PR G gh l)(h:tC c l d=true):c.Ok PR G gh:=
 Con.q8 mixed ⟨hl,fun _ h=>by cases h⟩ 20 aG no' 12 d h
section
variable{G:Nat->Int->Int->Int->Int}(hG:cX G)
include hG
theorem rv{k:Nat}(hk:k<2): ∀n,(n=1\/n=4)->(kZ k n).Ok PR G gh:=by
 obtain ⟨w1,w2,_,_⟩:=wfL hk;have h:=two (p:=fun k=>(tC (kZ k 1) [dH k 1 1,gI k] 20&&tC (kZ k 4) [dH k 4 1,gI k] 20)=true) abp acd hk
 simp only [Bool.and_eq_true] at h
 rintro n (rfl |rfl)
 ·exact ve (C2 w1 (nT hG hk 1 (.inl rfl) 1 (.inl rfl)) (qL hG hk)) h.1
 ·exact ve (C2 w2 (nT hG hk 4 (.inr rfl) 1 (.inl rfl)) (qL hG hk)) h.2
theorem oh{k:Nat}(hk:k<2): ∀n,(n=1\/n=4)->(gS k n).Ok PR G gh:=by
 obtain ⟨_,_,w1,w2⟩:=wfL hk;have h:=two (p:=fun k=>(tC (gS k 1) [dH k 1 2,pR k] 20&&tC (gS k 4) [dH k 4 2,pR k] 20)=true) WQ X5 hk
 simp only [Bool.and_eq_true] at h
 rintro n (rfl |rfl)
 ·exact ve (C2 w1 (nT hG hk 1 (.inl rfl) 2 (.inr rfl)) (Bs hG hk)) h.1
 ·exact ve (C2 w2 (nT hG hk 4 (.inr rfl) 2 (.inr rfl)) (Bs hG hk)) h.2
end
end
end Go.Proofs.YtbhlmedfhilkbaaGreat

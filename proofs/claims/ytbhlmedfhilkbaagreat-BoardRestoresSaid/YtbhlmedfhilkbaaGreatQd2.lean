/- Part Qd2. No condition. -/
import Derived.Test.YtbhlmedfhilkbaaGreatQd1
set_option linter.all false
namespace Go.Proofs.YtbhlmedfhilkbaaGreat
open Go Go.Sx
set_option maxRecDepth 1000000
noncomputable section
def FD:Fns:=⟨100,101,[1]⟩
def XF:ab:= .tuple [.agg [.int .i64 (dgB FD 64 0),.int .i64 (dgB FD 16 1),.int .i64 (dgB FD 16 2),.int .i64 (dgB FD 16 3),.int .u32 (dg FD .u32 4)],.int .i64 (dg FD .u8 5)]
def gB:Con:={g:=189,args:=[uV .u32 1],bds:=[bC 1],res:=XF}
def um:Con:={gB with g:=121}
def opE:IE:= .shr .u32 (.var 1) (.lit 26)
def opR:IE:= .quo (.var 1) (.lit 67108864)
def kD(n:Int):Know:=⟨[cOf n,iC 196 18,iC 196 22],[]⟩
def kR:Know:=⟨[iC 80 18,iC 80 22],[]⟩
def jR(n:Int):Out:=gB.pf PR kD 40 aG no' 12 [] opE n
def Ef(n:Int):Out:=um.pf PR (fun _=>kR) 40 aG no' 12 [] opR n
def kT:RT:=gB.rows FD (cg opE jR dD)
def BK:List Int:=(List.range 32).map Int.ofNat
def x8:List Int:=(List.range 32).map fun n=>Int.ofNat (n+32)
theorem adw:aj opE jR (fun _=>gB.ao FD) [] BK=true:=by kernel_rfl
theorem ad3:aj opE jR (fun _=>gB.ao FD) [] x8=true:=by kernel_rfl
theorem adx:aj opR Ef (fun n=>um.cQ gB.ef (jR n)) [] BK=true:=by kernel_rfl
theorem ada:aj opR Ef (fun n=>um.cQ gB.ef (jR n)) [] x8=true:=by kernel_rfl
theorem ab0:aT jR gB FD 100 BK=true:=by kernel_rfl
theorem YX:aT jR gB FD 100 x8=true:=by kernel_rfl
theorem fp:dD=BK++x8:=by decide
theorem aad:aj opE jR (fun _=>gB.ao FD) [] dD=true:=by rw [fp]; exact aQ adw ad3
theorem ZE:aj opR Ef (fun n=>um.cQ gB.ef (jR n)) [] dD=true:=by rw [fp]; exact aQ adx ada
theorem RH:kT.only (bR FD.vars) 100=true:=by
 refine hZ rfl ?_;unfold aT;rw [fp,List.all_append];have h1:=ab0;have h2:=YX;unfold aT at h1 h2;rw [h1,h2];rfl
theorem Wf{x:Int}(h0:0<=x)(h1:x<64):x∈dD:=by
 obtain ⟨n,rfl⟩:=Int.eq_ofNat_of_zero_le h0;unfold dD;exact List.mem_map.2 ⟨n,List.mem_range.2 (by omega),rfl⟩
theorem PB{ρ:Env}(h2:ρ.ok (bdL [bC 1])):opE.ev ρ=ρ.i 1 / 67108864/\opR.ev ρ=ρ.i 1 / 67108864/\0<=ρ.i 1 / 67108864/\ρ.i 1 / 67108864<64:=by
 obtain ⟨q1,q2⟩:=h2 1 0 4294967295 rfl;refine ⟨?_,?_,by omega,by omega⟩
 ·show (ρ.i 1).fdiv (2^(min 26 32))=_;rw [Int.fdiv_eq_ediv_of_nonneg _ (by decide)]
  rfl
 ·exact Int.tdiv_eq_ediv_of_nonneg q1
section
variable{G:Nat->Int->Int->Int->Int}(hG:FD.Def G kT)
include hG
omit hG in
theorem aar: ∀n∈dD,(kD n).Ok PR G gh:=fun n hn=>by
 have h: ∀c∈[cOf n,iC 196 18,iC 196 22],c.Ok PR G gh:=fun c hc=>by
  rcases List.mem_cons.1 hc with rfl |hc
  ·exact (Od hn).2
  ·rcases List.mem_cons.1 hc with rfl |hc
   ·exact yG 18 (.inr (.inl rfl))
   ·rcases List.mem_cons.1 hc with rfl |hc
    ·exact yG 22 (.inr (.inr rfl))
    ·cases hc
 have w:[cOf n,iC 196 18,iC 196 22].all Con.wf=true:=by
  rw [List.all_cons,(Od (G:=G) hn).1];have:[iC 196 18,iC 196 22].all Con.wf=true:=by kernel_rfl
  rw [this];rfl
 exact ⟨ku w h,fun _ h=>by cases h⟩
omit hG in
theorem abu:kR.Ok PR G gh:=by
 have h: ∀c∈[iC 80 18,iC 80 22],c.Ok PR G gh:=fun c hc=>by
  rcases List.mem_cons.1 hc with rfl |hc
  ·exact uM 18 (.inl rfl)
  ·rcases List.mem_cons.1 hc with rfl |hc
   ·exact uM 22 (.inr rfl)
   ·cases hc
 exact ⟨ku (by kernel_rfl) h,fun _ h=>by cases h⟩
omit hG in
theorem s9{ρ:Env}(h2:ρ.ok (bdL gB.bds)):opE.ev ρ∈dD:=by
 obtain ⟨e,_,a,b⟩:=PB (ρ:=ρ) h2;rw [e];exact Wf a b
omit hG in
theorem Dz{ρ:Env}(h2:ρ.ok (bdL gB.bds)):opR.ev ρ=opE.ev ρ:=by
 obtain ⟨e,e',_,_⟩:=PB (ρ:=ρ) h2;rw [e,e']
theorem Bq{ρ:Env}(h1:ρ.std G gh)(h2:ρ.ok (bdL gB.bds)): ∃x s q,(cg opE jR dD).pick ρ=some (x,s)/\gB.ef s=some q/\q.hold ρ:=by
 obtain ⟨x2,s2,dec',hd',a1,a2⟩:=bW (ρ:=ρ) (e:=opE) (f:=jR) aad (s9 h2) dq;obtain ⟨q2,b1,b2⟩:=Con.kr (c:=gB) (F:=FD) (ρ:=ρ) (o:=cg opE jR dD) (dec':=dec') (by decide) h2 (by rw [h1.1]; exact hG) a1 a2
 exact ⟨x2,s2,q2,a1,b1,b2⟩
theorem II:gB.Leaves G gh (cg opE jR dD):=fun ρ h1 h2 h3=>by
 obtain ⟨x,s,q,a,b,c⟩:=Bq hG h1 h2;exact ⟨x,s,_,q,a,b,c⟩
theorem Gb:um.Leaves G gh (cg opR Ef dD):=
 Con.IZ (c:=um) (c':=gB) (facts:=[]) (e:=opE) (e':=opR) (f:=jR) (f':=Ef) (l:=dD) (fun _ _ _ _=>dq) (fun ρ _ h2 _=>s9 h2) (fun ρ _ h2 _=>Dz h2) (fun ρ h1 h2 _=>Bq hG h1 h2) ZE
theorem Ui:gB.Ok PR G gh:=
 Con.mS (c:=gB) mixed (K:=kD) (l:=dD) aar (L:=40) (pol:=aG) (pure:=no') (d:=12) (facts:=[]) (fun _ _ _ _=>dq) (e:=opE) (fun ρ _ h2 _=>s9 h2) (II hG)
theorem Rc:um.Ok PR G gh:=
 Con.mS (c:=um) mixed (K:=fun _=>kR) (l:=dD) (fun _ _=>abu) (L:=40) (pol:=aG) (pure:=no') (d:=12) (facts:=[]) (fun _ _ _ _=>dq) (e:=opR) (fun ρ _ h2 _=>by
  rw [Dz h2];exact s9 h2) (Gb hG)
end
end
end Go.Proofs.YtbhlmedfhilkbaaGreat

/- Part Qd5. No condition. -/
import Derived.Test.YtbhlmedfhilkbaaGreatQd3
set_option linter.all false
namespace Go.Proofs.YtbhlmedfhilkbaaGreat
open Go Go.Sx
set_option maxRecDepth 1000000
noncomputable section
def FS:Fns:=⟨104,105,[0,90]⟩
def stA:ab:= .agg (sv (.var 90) aW 0)
def Z0:IE:= .fn FS.KV FS.x (.lit 0) (.lit 26)
def gO:Con:={g:=180,args:=[stA,aca],os:=[dZ 1 (.var 0)],res:= .tuple [.agg (dgL FS aW 0),.agg [.int .i64 (dg FS .u8 24),.int .u32 (dg FS .u32 25)]],os':=[.ghost 1 [Z0] (mu 1)]}
def pcS:IE:= .wrap .u32 (.fn 0 (.var 90) (.lit 0) (.lit 0))
def opS:IE:=(dgB FF 64 0).rep fun i=>match i with |1=>pcS |i=> .var i
def kQ:Know:=⟨[XZ,kZ 1 1,kZ 1 4,gS 1 1,gS 1 4,yr 1],[]⟩
def tSt(n:Int):Out:=gO.pf PR (fun _=>kQ) 40 aG no' 12 [] opS n
def BQ:RT:=gO.rows FS (cg opS tSt dD)
theorem T2:aj opS tSt (fun _=>gO.ao FS) [] BK=true:=by kernel_rfl
theorem S6:aj opS tSt (fun _=>gO.ao FS) [] x8=true:=by kernel_rfl
theorem Xe:aj opS tSt (fun _=>gO.ao FS) [] dD=true:=by rw [fp]; exact aQ T2 S6
theorem So:aT tSt gO FS 104 BK=true:=by kernel_rfl
theorem Rg:aT tSt gO FS 104 x8=true:=by kernel_rfl
theorem Tb:BQ.only (bR FS.vars) 104=true:=by
 refine hZ (by kernel_rfl) ?_
 unfold aT;rw [fp,List.all_append];have h1:=So;have h2:=Rg;unfold aT at h1 h2;rw [h1,h2];rfl
theorem aa7:kQ.cons.all Con.wf=true:=by kernel_rfl
theorem wv{ρ:Env}:opS.ev ρ∈dD:=by
 have h:rng (fun _=>none) opS=some (0,63):=by kernel_rfl
 obtain ⟨a,b⟩:=bD (ρ:=ρ) (bd:=fun _=>none) (fun i lo hi h=>by cases h) opS 0 63 h
 exact Wf a (by omega)
section
variable{G:Nat->Int->Int->Int->Int}(hB:cX G)(hD:FD.Def G kT)(hF:FF.Def G pa)(hS:FS.Def G BQ)
include hB hD hF
theorem acj:kQ.Ok PR G gh:=by
 have h: ∀c∈[XZ,kZ 1 1,kZ 1 4,gS 1 1,gS 1 4,yr 1],c.Ok PR G gh:=fun c hc=>by
  rcases List.mem_cons.1 hc with rfl |hc
  ·exact Vb hB hD hF
  ·rcases List.mem_cons.1 hc with rfl |hc
   ·exact rv hB (by decide) 1 (.inl rfl)
   ·rcases List.mem_cons.1 hc with rfl |hc
    ·exact rv hB (by decide) 4 (.inr rfl)
    ·rcases List.mem_cons.1 hc with rfl |hc
     ·exact oh hB (by decide) 1 (.inl rfl)
     ·rcases List.mem_cons.1 hc with rfl |hc
      ·exact oh hB (by decide) 4 (.inr rfl)
      ·rcases List.mem_cons.1 hc with rfl |hc
       ·exact Qi hB (by decide)
       ·cases hc
 exact ⟨ku aa7 h,fun _ h=>by cases h⟩
omit hB hD hF in
include hS in
theorem V5{ρ:Env}(h1:ρ.std G gh)(h2:ρ.ok (bdL gO.bds)): ∃x s q,(cg opS tSt dD).pick ρ=some (x,s)/\gO.ef s=some q/\q.hold ρ:=by
 obtain ⟨x2,s2,dec',hd',a1,a2⟩:=bW (ρ:=ρ) (e:=opS) (f:=tSt) Xe wv dq;obtain ⟨q2,b1,b2⟩:=Con.kr (c:=gO) (F:=FS) (ρ:=ρ) (o:=cg opS tSt dD) (dec':=dec') (by decide) h2 (by rw [h1.1]; exact hS) a1 a2
 exact ⟨x2,s2,q2,a1,b1,b2⟩
include hS
theorem Qd:gO.Ok PR G gh:=
 Con.mS (c:=gO) mixed (K:=fun _=>kQ) (l:=dD) (fun _ _=>acj hB hD hF) (L:=40) (pol:=aG) (pure:=no') (d:=12) (facts:=[]) (fun _ _ _ _=>dq) (e:=opS) (fun ρ _ _ _=>wv) fun ρ h1 h2 _=>by
  obtain ⟨x,s,q,a,b,c⟩:=V5 hS h1 h2;exact ⟨x,s,_,q,a,b,c⟩
end
end
end Go.Proofs.YtbhlmedfhilkbaaGreat

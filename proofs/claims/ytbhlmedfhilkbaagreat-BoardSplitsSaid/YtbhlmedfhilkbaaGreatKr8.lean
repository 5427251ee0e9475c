/- The reference's step of K is the program's function. No condition. -/
import Derived.Test.YtbhlmedfhilkbaaGreatKs6
import Derived.Test.YtbhlmedfhilkbaaGreatQr4
import Derived.Test.YtbhlmedfhilkbaaGreatMr4
set_option linter.unusedSimpArgs false
set_option linter.unusedVariables false
set_option linter.unusedSectionVars false
namespace Go.Proofs.YtbhlmedfhilkbaaGreat
open Go Go.Sx
set_option maxRecDepth 1000000
noncomputable section
section
variable{G:Nat->Int->Int->Int->Int}(hB:cX G)(hF:FK.Def G gP)(hS:FKS.Def G sM)
include hB hF
include hS
end
end
end Go.Proofs.YtbhlmedfhilkbaaGreat
namespace Go.Proofs.YtbhlmedfhilkbaaGreat
open Go Go.Sx
set_option maxRecDepth 1000000
noncomputable section
def FRK:Fns:=⟨134,135,[0,90,2,3]⟩
def nH(l:List ab)(j:Nat):ah:= .cells (aX (.ptr (some (j,0))::l) 0) 172 true 25
def nd(l:List ab)(j:Nat):ah:= .cells (aX (l++[.ptr (some (j,0))]) 0) 138 true 25
def stO:ah:= .cells (aX (b9 (.var 90)) 0) 35 true 24
def ld:ah:= .arr [] (.lit 0) (.lit 0) true
def xP:Con:={g:=225,args:=[pm,.int .i64 (.var 3),.ptr (some (2,0)),.ptr (some (3,0)),.int .i64 (.var 2)],os:=[nH (b9 (.var 90)) 1,dZ 0 (.var 0),JD,stO],bds:=zn,res:= .tuple [.ptr (some (2,0))],os':=[nH (dgL FRK aW 0) 1,.ghost 0 [kvE FRK 24] .nil,K6 FRK 25,ld]}
def z9:ba:={con:=xP,key:=5,n:=47,sl:=[0,1,4,5,6],e:= .ret,sl':=[4]}
def OJ:Know:=⟨[da],[]⟩
def R5:Out:=z9.tree PR OJ 20 aG no' 12 [] μR
def xv:Con:={g:=99,args:=[pm,.int .i64 (.var 3),.ptr (some (2,0)),.int .i64 (.var 2)],os:=[nd (b9 (.var 90)) 1,dZ 2 (.var 0),JD],bds:=zn,res:= .tuple [.ptr (some (2,0))],os':=[nd (dgL FRK aW 0) 1,.ghost 2 [kvE FRK 24] .nil,K6 FRK 25]}
def tL:ba:={con:=xv,key:=4,n:=53,sl:=[0,1,4,5],e:= .ret,sl':=[4]}
def GN:Know:=⟨[j0],[]⟩
def Ia:Out:=tL.tree PR GN 20 aG no' 12 [] μR
theorem yI:(R5.all (xP.gG FRK (jQ FKS)) []&&(Ia.all (xv.gG FRK (jQ FKS)) []&&((jQ FKS).rt.only (bR FRK.vars) 134&&(xP.wf&&(xv.wf&&(OJ.cons.all Con.wf&&GN.cons.all Con.wf))))))=true:=by kernel_rfl
def i7:Con:={g:=225,args:=[pm,.int .i64 (.var 3)],os:=[nH (b9 (.var 90)) 1,dZ 0 (.var 0)],bds:=Ll,res:=Kz FRK,os':=[nH (dXL 134 x0 aW 0) 1,.ghost 0 [vX 135 x0 24] .nil]}
def fy:Con:={g:=99,args:=[pm,.int .i64 (.var 3)],os:=[nd (b9 (.var 90)) 1,dZ 2 (.var 0)],bds:=Ll,res:=Kz FRK,os':=[nd (dXL 134 x0 aW 0) 1,.ghost 2 [vX 135 x0 24] .nil]}
theorem zS:(T6 i7 z9&&(T6 fy tL&&(i7.wf&&fy.wf)))=true:=by kernel_rfl
section
variable{G:Nat->Int->Int->Int->Int}(hB:cX G)(hF:FK.Def G gP)(hS:FKS.Def G sM)(hR:FRK.Def G (jQ FKS).rt)
include hB hF hS hR
theorem Ek:z9.con.wf=true/\z9.Ok PR G gh:=by
 have f:=aa yI
 have f3:=aa (aa (aa f.2).2).2
 have h:xP.Leaves G gh R5:=Con.lj (c:=xP) [] (fun _ _ _ _=>aw) (F:=FRK) (by decide) (t:=jQ FKS) f.1 hR
 unfold R5 at h
 have w:z9.con.wf=true:=f3.1
 exact ⟨w,ba.f6 (c:=z9) mixed (K:=OJ) (bB (aa (aa f3.2).2).1 (aJ (LN hB hF hS) dj)) w rfl (L:=20) (pol:=aG) (pure:=no') (d:=12) (μ:=μR) (facts:=[]) (fun _ _ _ _=>aw) h⟩
theorem OC:i7.wf=true/\i7.Ok PR G gh:=by
 have h:=zS
 simp only [Bool.and_eq_true] at h
 exact ⟨h.2.2.1,bA (ia rfl dj (lpC (Ek hB hF hS hR).1 (Ek hB hF hS hR).2 lpN)) h.1⟩
end
end
end Go.Proofs.YtbhlmedfhilkbaaGreat
namespace Go.Proofs.YtbhlmedfhilkbaaGreat
open Go Go.Sx
set_option maxRecDepth 1000000
noncomputable section
theorem Ak:aj kj tKs (fun _=>dy da FKS) [] jv=true:=aQ Ul (aQ Ty (aQ TU (aQ TC (aQ TO (aQ S3 T0)))))
theorem aa2{G:Nat->Int->Int->Int->Int}(hP:gg G)(hF:FK.Def G gP)(hS:FKS.Def G sM): ∀M S,dgN .u8 (G FKS.KR (pk2 M S) 0 0) 24=0->fN (G FKS.KR (pk2 M S) 0 0)=IntKind.i64.wrap (fN S+1):=
 Ei hP (by decide) rfl fun ρ h1 h24=>Ab (c:=da) (l:=jv) (by decide) Ib Ak (fun i lo hi h=>by cases h) (rT hF h1) (by rw [h1.1]; exact hS) h24
theorem Zd{G:Nat->Int->Int->Int->Int}(hB:cX G)(hP:gg G)(hF:FK.Def G gP)(hS:FKS.Def G sM){p q:Int}: ∀M S,bS p q M->bS p q (G FKS.KV (pk2 M S) 0 26):=
 Eu hP (by decide) rfl fun ρ h1 h0=>AB (c:=da) (l:=jv) (by decide) Ib Ak hB h1 (fun i lo hi h=>by cases h) (rT hF h1) (by rw [h1.1]; exact hS) h0
end
end Go.Proofs.YtbhlmedfhilkbaaGreat

/- The reference's step of Q: the program's function of the memory and the state. No condition. -/
import Derived.Test.YtbhlmedfhilkbaaGreatQr1
set_option linter.unusedSimpArgs false
set_option linter.unusedVariables false
set_option linter.unusedSectionVars false
namespace Go.Proofs.YtbhlmedfhilkbaaGreat
open Go Go.Sx
set_option maxRecDepth 1000000
noncomputable section
def adk(F:Fns):List ab:=dgL F aW 0++[.int .i64 (dg F .u8 24),.int .u32 (dg F .u32 25)]
def th:Con:={g:=84,args:=[stA,pm],os:=[dZ 2 (.var 0)],res:= .agg (adk FS),os':=[.ghost 2 [Z0] (mu 2)]}
def kQr:Know:=⟨[QJ,mn 1,mn 4,gR 1,gR 4,oS,UG],[]⟩
def trS:IE:=(dg FF .u8 5).rep (M3 pcS)
def abt(n:Int):Dec:=match zj n with
 |true=>[]
 |false=>[(.eq trS (.lit 0),false)]
def Xy(n:Int):Dec:=(.eq opS (.lit n),true)::abt n
def adl(n:Int):Out:=th.tree PR kQr 40 aG no' 12 (Xy n)
def GY(l:List Int):Bool:=l.all fun n=>(adl n).all (th.cQ (Gn gO 27) (tSt n)) (Xy n++th.pre)
def ur(k:Nat):List Int:=(List.range 8).map fun n=>Int.ofNat (8*k+n)
theorem ac6:GY (ur 0)=true:=by kernel_rfl
theorem ad6:GY (ur 1)=true:=by kernel_rfl
theorem adg:GY (ur 2)=true:=by kernel_rfl
theorem ac4:GY (ur 3)=true:=by kernel_rfl
theorem ad1:GY x8=true:=by kernel_rfl
theorem Nm:dD=ur 0++(ur 1++(ur 2++(ur 3++x8))):=by decide
theorem stR:GY dD=true:=by
 have h0:=ac6
 have h1:=ad6
 have h2:=adg
 have h3:=ac4
 have h4:=ad1
 unfold GY at*
 rw [Nm,List.all_append,List.all_append,List.all_append,List.all_append,h0,h1,h2,h3,h4]
 rfl
theorem Xi:kQr.cons.all Con.wf=true:=by kernel_rfl
theorem UF:zj.opsV.all zj=true:=by decide
section
variable{G:Nat->Int->Int->Int->Int}(hB:cX G)(hD:FD.Def G kT)(hF:FF.Def G pa)(hS:FS.Def G BQ)
include hB hD hF
theorem Xk:kQr.Ok PR G gh:=by
 have h: ∀c∈[QJ,mn 1,mn 4,gR 1,gR 4,oS,UG],c.Ok PR G gh:=fun c hc=>by
  simp only [List.mem_cons,List.not_mem_nil,or_false] at hc
  rcases hc with rfl |rfl |rfl |rfl |rfl |rfl |rfl
  ·exact QK hB hD hF
  ·exact qG hB (.inl rfl)
  ·exact qG hB (.inr rfl)
  ·exact nI hB (.inl rfl)
  ·exact nI hB (.inr rfl)
  ·exact yf hB
  ·exact TG
 exact ⟨ku Xi h,fun _ h=>by cases h⟩
omit hB in
theorem T4{ρ:Env}(h1:ρ.std G gh):(Xy (opS.ev ρ)).holds ρ:=by
 refine aR ?_ (decide_eq_true rfl)
 unfold abt
 cases h:zj (opS.ev ρ) with
 |true=>exact aw
 |false=>
  refine aR aw (decide_eq_false fun h0=> ?_)
  have h0:trS.ev ρ=0:=h0
  unfold trS at h0
  rw [IE.a9] at h0
  have hm:=S2 hD hF (ρ:=ρ.rep (M3 pcS)) h1 (fun i lo hi hx=> ?_) h0
  ·have e:opS.ev ρ=(dgB FF 64 0).ev (ρ.rep (M3 pcS)):=by
    rw [<- IE.a9]
    rfl
   rw [<- e] at hm
   rw [List.all_eq_true.1 UF _ hm] at h
   cases h
  ·match i with
   |0=>cases hx
   |1=>cases hx; exact wrap_mem .u32 _
   |i+2=>cases hx
include hS
theorem Nu:th.Ok PR G gh:=by
 intro ρ h1 h2 h3
 have hf:=T4 hD hF h1
 have hin:opS.ev ρ∈dD:=wv
 have h:=List.all_eq_true.1 stR _ hin
 obtain ⟨e,s,dec',hd',p1,p2⟩:=Out.bP (bJ hf h3) h
 unfold Con.cQ at p2
 split at p2
 ·rename_i q hq
  refine Con.ig (dh PR th.g) (fun B W=>(Con.dJ mixed (Xk hB hD hF) h1 h2 h3 hf p1 B W).toR) hq (nq h2 hd' p2 fun x' s' m hp hm=> ?_)
  obtain ⟨x2,s2,q2,a1,a2,a3⟩:=V5 hS h1 (ρ:=ρ) h2
  rw [iA hin,hp] at a1
  cases a1
  exact xU a2 a3 hm
 ·cases p2
end
end
end Go.Proofs.YtbhlmedfhilkbaaGreat

/- BoardStops: the runs, case by case. No condition. -/
import Derived.Test.YtbhlmedfhilkbaaGreatBi3
set_option linter.unusedSimpArgs false
set_option linter.unusedVariables false
set_option linter.unusedSectionVars false
namespace Go.Proofs.YtbhlmedfhilkbaaGreat
open Go Go.Sx
set_option maxRecDepth 1000000
noncomputable section
def kLs(coh l:Bool):Know:=match coh with
 |true=>⟨[JN,mi true l,cZK,cBK,MM,m7 true,n9],[]⟩
 |false=>⟨[JN,mi false l,cZQ,cBQ,LF,m7 false,n9],[]⟩
def w150:IE:= .lit 150
def nLaw(coh l:Bool):IE:= .rem (dLaw coh l w150 .u32 29) (.lit 1002001)
def eLaw(coh l:Bool)(j:Nat):BE:= .eq (.wrap (D3 j) (.fn 0 (vLaw coh l w150 33) (.add (.mul (.sub (nLaw coh l) (.lit 1)) (.lit 27)) (.lit (.ofNat (3+j)))) (.lit 0))) (dLaw coh l w150 (D3 j) j)
def stopF(coh l:Bool):Dec:=(.eq (vLaw coh l w150 28) (.lit 1),true)::(.lt (.lit 0) (nLaw coh l),true)::(.lt (.sub (nLaw coh l) (.lit 1)) (.lit 0),false)::(List.range 24).map fun j=>(eLaw coh l j,true)
def goF(coh l:Bool):Dec:=[(.eq (vLaw coh l w150 28) (.lit 1),false)]
def rStop(coh l:Bool)(pre:Dec):Bool:=fq (XB 7 coh l pre) (kLs coh l) 100 12 12
theorem stops_g:([true,false].all fun coh=>[true,false].all fun l=>rStop coh l (goF coh l))=true:=by kernel_rfl
theorem stops_s:([true,false].all fun coh=>[true,false].all fun l=>rStop coh l (stopF coh l))=true:=by kernel_rfl
end
end Go.Proofs.YtbhlmedfhilkbaaGreat
namespace Go.Proofs.YtbhlmedfhilkbaaGreat
open Go Go.Sx
set_option maxRecDepth 1000000
noncomputable section
theorem kLs_wf:([true,false].all fun coh=>[true,false].all fun l=>(kLs coh l).cons.all Con.wf)=true:=by kernel_rfl
theorem allS{f:Bool->Bool->Bool}(h:([true,false].all fun a=>[true,false].all fun b=>f a b)=true)(a b:Bool):f a b=true:=
 List.all_eq_true.1 (List.all_eq_true.1 h a (by cases a<;>simp)) b (by cases b<;>simp)
section
variable{G:Nat->Int->Int->Int->Int}(hG:LawG G)
include hG
theorem kLs_ok(coh l:Bool):(kLs coh l).Ok PR G gh:=by
 have w:=allS kLs_wf coh l
 have hB:=hG.made.base
 cases coh
 ·exact bB w (aJ ZL (aJ (Ec hG false l).2 (aJ cZQ_ok.2 (aJ (W5 hG.toRunG).2 (aJ (Tv hG.toRunG).2 (aJ (Au hB false).2 (aJ yo.2 dj)))))))
 ·exact bB w (aJ ZL (aJ (Ec hG true l).2 (aJ cZK_ok.2 (aJ (XH hG.toRunG).2 (aJ (TN hG.toRunG).2 (aJ (Au hB true).2 (aJ yo.2 dj)))))))
theorem rStop_ok{coh l:Bool}{pre:Dec}(h:rStop coh l pre=true):(XB 7 coh l pre).Ok PR G gh:=bA (kLs_ok hG coh l) h
theorem stops_ok:(Ti 7).Ok PR G gh:=ac2 hG fun coh l ρ h1 h2 h3=>by
 have h3': ∀p∈is2 coh::many l::(hd6 coh++(hdL coh++[])),p.1.ev ρ=p.2:=h3
 have add: ∀X:Dec,X.holds ρ-> ∀p∈is2 coh::many l::(hd6 coh++(hdL coh++X)),p.1.ev ρ=p.2:=fun X hX p hp=>by
  simp only [List.append_nil,List.mem_cons,List.mem_append] at hp h3'
  rcases hp with rfl |rfl |hp |hp |hp
  ·exact h3' _ (.inl rfl)
  ·exact h3' _ (.inr (.inl rfl))
  ·exact h3' _ (.inr (.inr (.inl hp)))
  ·exact h3' _ (.inr (.inr (.inr hp)))
  ·exact hX p hp
 have hl:(many l).1.ev ρ=(many l).2:=h3' _ (List.mem_cons_of_mem _ (List.mem_cons_self ..))
 by_cases s:(vLaw coh l w150 28).ev ρ=1
 ·have s':(BE.eq (vLaw coh l w150 28) (.lit 1)).ev ρ=true:=decide_eq_true s
  obtain ⟨ho,hmu⟩:=okbL (w:=w150) h2 hl ⟨show (0:Int)<=150 by omega,show (150:Int)<=1000 by omega⟩
  have hmu:muN (ρ.rep (σL coh l w150))=150*1002:=hmu
  have hs:=board_sinv hG.toRunG coh (ρ.rep (σL coh l w150)) h1 ho
  have hb:=N7 hG.toRunG coh (ρ.rep (σL coh l w150)) h1 ho
  rw [xLaw_rep] at hs hb
  rw [vLaw_ev h1] at s
  obtain ⟨hs1,hs2⟩:=hs rfl s
  have hs1:0+1<=DX G (FB coh) ((xLaw coh l w150).ev ρ) .u32 29:=hs1
  obtain ⟨q0,q1,q2,o0,o1,n0,n1,z,hd⟩:=hb
  have n1:DX G (FB coh) ((xLaw coh l w150).ev ρ) .u32 29<=0+max 0 (muN (ρ.rep (σL coh l w150))):=n1
  have en:(nLaw coh l).ev ρ=DX G (FB coh) ((xLaw coh l w150).ev ρ) .u32 29:=by
   show ((dLaw coh l w150 .u32 29).ev ρ).tmod 1002001=_
   rw [dLaw_ev h1,Int.tmod_eq_emod_of_nonneg (by omega)]
   omega
  have a':(BE.lt (.lit 0) (nLaw coh l)).ev ρ=true:=decide_eq_true (show 0<(nLaw coh l).ev ρ by omega)
  have b':(BE.lt (.sub (nLaw coh l) (.lit 1)) (.lit 0)).ev ρ=false:=decide_eq_false (show ¬(nLaw coh l).ev ρ-1<0 by omega)
  refine rStop_ok hG (allS stops_s coh l) ρ h1 h2 (add _ (ak s' (ak a' (ak b' fun p hp=> ?_))))
  obtain ⟨j,hj,rfl⟩:=List.mem_map.1 hp
  have hj:=List.mem_range.1 hj
  refine decide_eq_true (show (D3 j).wrap (ag ((vLaw coh l w150 33).ev ρ) (((nLaw coh l).ev ρ-1)*27+((3+j:Nat):Int)))=(dLaw coh l w150 (D3 j) j).ev ρ from ?_)
  rw [dLaw_ev h1,vLaw_ev h1,en]
  exact hs2 j hj
 ·have s':(BE.eq (vLaw coh l w150 28) (.lit 1)).ev ρ=false:=decide_eq_false s
  exact rStop_ok hG (allS stops_g coh l) ρ h1 h2 (add _ (ak s' aw))
end
end
end Go.Proofs.YtbhlmedfhilkbaaGreat

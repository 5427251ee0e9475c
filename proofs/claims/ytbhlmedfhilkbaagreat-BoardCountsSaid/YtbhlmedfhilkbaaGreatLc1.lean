/- BoardCounts: the runs, case by case. No condition. -/
import Derived.Test.YtbhlmedfhilkbaaGreatBi3
set_option linter.unusedSimpArgs false
set_option linter.unusedVariables false
set_option linter.unusedSectionVars false
namespace Go.Proofs.YtbhlmedfhilkbaaGreat
open Go Go.Sx
set_option maxRecDepth 1000000
noncomputable section
def kLc(coh l:Bool):Know:=match coh with
 |true=>⟨[JN,mi true l,cNK,cBK,zN],[]⟩
 |false=>⟨[JN,mi false l,cNQ,cBQ,F8],[]⟩
def mostL:IE:= .rem (.add (.rem (.var 21) (.lit 90)) (.lit 90)) (.lit 90)
def doneC(coh l:Bool):IE:= .wrap .i64 (.sub (dLaw coh l mostL .i64 22) (.wrap .i64 (.fn 0 (rowL coh) (.lit 22) (.lit 0))))
def caseA:Dec:=[(.lt (.lit 0) mostL,false),(.eq mostL (.lit 0),true)]
def caseB(coh l:Bool):Dec:=[(.lt (.lit 0) mostL,true),(.eq (doneC coh l) mostL,true)]
def caseC(coh l:Bool):Dec:=[(.lt (.lit 0) mostL,true),(.eq (doneC coh l) mostL,false),(.eq (vLaw coh l mostL 28) (.lit 1),true),(.lt (doneC coh l) mostL,true)]
def rCnt(coh l:Bool)(pre:Dec):Bool:=fq (XB 8 coh l pre) (kLc coh l) 100 12 12
theorem counts_a:([true,false].all fun coh=>[true,false].all fun l=>rCnt coh l caseA)=true:=by kernel_rfl
theorem counts_b:([true,false].all fun coh=>[true,false].all fun l=>rCnt coh l (caseB coh l))=true:=by kernel_rfl
theorem counts_c:([true,false].all fun coh=>[true,false].all fun l=>rCnt coh l (caseC coh l))=true:=by kernel_rfl
end
end Go.Proofs.YtbhlmedfhilkbaaGreat
namespace Go.Proofs.YtbhlmedfhilkbaaGreat
open Go Go.Sx
set_option maxRecDepth 1000000
noncomputable section
theorem kLc_wf:([true,false].all fun coh=>[true,false].all fun l=>(kLc coh l).cons.all Con.wf)=true:=by kernel_rfl
section
variable{G:Nat->Int->Int->Int->Int}(hG:LawG G)
include hG
theorem kLc_ok(coh l:Bool):(kLc coh l).Ok PR G gh:=by
 have w:=List.all_eq_true.1 (List.all_eq_true.1 kLc_wf coh (by cases coh<;>simp)) l (by cases l<;>simp)
 have hB:=hG.made.base
 cases coh
 ·exact bB w (aJ ZL (aJ (Ec hG false l).2 (aJ cNQ_ok.2 (aJ (W5 hG.toRunG).2 (aJ (Sg hB).2 dj)))))
 ·exact bB w (aJ ZL (aJ (Ec hG true l).2 (aJ cNK_ok.2 (aJ (XH hG.toRunG).2 (aJ (PC hB).2 dj)))))
theorem rCnt_ok{coh l:Bool}{pre:Dec}(h:rCnt coh l pre=true):(XB 8 coh l pre).Ok PR G gh:=bA (kLc_ok hG coh l) h
omit hG in
theorem all4{f:Bool->Bool->Bool}(h:([true,false].all fun a=>[true,false].all fun b=>f a b)=true)(a b:Bool):f a b=true:=
 List.all_eq_true.1 (List.all_eq_true.1 h a (by cases a<;>simp)) b (by cases b<;>simp)
theorem counts_ok:(Ti 8).Ok PR G gh:=ac2 hG fun coh l ρ h1 h2 h3=>by
 have h3': ∀p∈is2 coh::many l::(hd6 coh++(hdL coh++[])),p.1.ev ρ=p.2:=h3
 have add: ∀X:Dec,X.holds ρ-> ∀p∈is2 coh::many l::(hd6 coh++(hdL coh++X)),p.1.ev ρ=p.2:=fun X hX p hp=>by
  simp only [List.append_nil,List.mem_cons,List.mem_append] at hp h3'
  rcases hp with rfl |rfl |hp |hp |hp
  ·exact h3' _ (.inl rfl)
  ·exact h3' _ (.inr (.inl rfl))
  ·exact h3' _ (.inr (.inr (.inl hp)))
  ·exact h3' _ (.inr (.inr (.inr hp)))
  ·exact hX p hp
 have hm:0<=mostL.ev ρ/\mostL.ev ρ<90:=Yu (ρ.i 21) (m:=90) 90 rfl (by decide)
 have hl:(many l).1.ev ρ=(many l).2:=h3' _ (List.mem_cons_of_mem _ (List.mem_cons_self ..))
 by_cases m:0<mostL.ev ρ
 ·have m':(BE.lt (.lit 0) mostL).ev ρ=true:=decide_eq_true m
  by_cases d:(doneC coh l).ev ρ=mostL.ev ρ
  ·have d':(BE.eq (doneC coh l) mostL).ev ρ=true:=decide_eq_true d
   exact rCnt_ok hG (all4 counts_b coh l) ρ h1 h2 (add _ (ak m' (ak d' aw)))
  ·obtain ⟨ho,_⟩:=okbL (w:=mostL) h2 hl ⟨hm.1,by omega⟩
   have hs:=stpL hG h1 coh
   have hc:=board_cinv hG.toRunG coh (ρ.rep (σL coh l mostL)) h1 ho
   rw [xLaw_rep] at hc
   have hc:=hc rfl hm.1 hs.1 (show fN ((rowL coh).ev ρ)+mostL.ev ρ<=1000000000000 by omega)
   have hc:(DX G (FB coh) ((xLaw coh l mostL).ev ρ) .i64 22=fN ((rowL coh).ev ρ)+mostL.ev ρ\/(G (FB coh).KV ((xLaw coh l mostL).ev ρ) 0 28=1/\DX G (FB coh) ((xLaw coh l mostL).ev ρ) .i64 22<fN ((rowL coh).ev ρ)+mostL.ev ρ))/\fN ((rowL coh).ev ρ)<=DX G (FB coh) ((xLaw coh l mostL).ev ρ) .i64 22:=hc
   have e:(doneC coh l).ev ρ=IntKind.i64.wrap ((dLaw coh l mostL .i64 22).ev ρ-fN ((rowL coh).ev ρ)):=rfl
   rw [dLaw_ev h1] at e
   have er:(doneC coh l).ev ρ=DX G (FB coh) ((xLaw coh l mostL).ev ρ) .i64 22-fN ((rowL coh).ev ρ):=by
    rw [e]
    rcases hc with ⟨a |a,b⟩
    ·exact wrap64 (show -9223372036854775808<=_ by omega) (show _<=9223372036854775807 by omega)
    ·exact wrap64 (show -9223372036854775808<=_ by omega) (show _<=9223372036854775807 by omega)
   rcases hc with ⟨a | ⟨a,c⟩,b⟩
   ·exact absurd (by rw [er]; omega) d
   ·have d':(BE.eq (doneC coh l) mostL).ev ρ=false:=decide_eq_false d
    have s':(BE.eq (vLaw coh l mostL 28) (.lit 1)).ev ρ=true:=decide_eq_true (show (vLaw coh l mostL 28).ev ρ=1 by rw [vLaw_ev h1]; exact a)
    have t':(BE.lt (doneC coh l) mostL).ev ρ=true:=decide_eq_true (show (doneC coh l).ev ρ<mostL.ev ρ by rw [er]; omega)
    exact rCnt_ok hG (all4 counts_c coh l) ρ h1 h2 (add _ (ak m' (ak d' (ak s' (ak t' aw)))))
 ·have m':(BE.lt (.lit 0) mostL).ev ρ=false:=decide_eq_false m
  have z':(BE.eq mostL (.lit 0)).ev ρ=true:=decide_eq_true (show mostL.ev ρ=0 by omega)
  exact rCnt_ok hG (all4 counts_a coh l) ρ h1 h2 (add _ (ak m' (ak z' aw)))
end
end
end Go.Proofs.YtbhlmedfhilkbaaGreat
